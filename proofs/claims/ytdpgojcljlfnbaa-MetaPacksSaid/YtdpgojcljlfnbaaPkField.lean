/- Contracts of functions that the law reaches: Field, Comment. -/
import Derived.Test.YtdpgojcljlfnbaaPkText
import Derived.Test.YtdpgojcljlfnbaaPkShelf
import Derived.Test.YtdpgojcljlfnbaaPkBase
section
/- Contracts of strings.Cut behind a '=', strings.ContainsFunc and meta.Field; texts shorter than 2^63 bytes. -/
set_option linter.unusedVariables false
set_option linter.unusedSimpArgs false
set_option maxRecDepth 100000
namespace Go.Proofs.Ytdpgojcljlfnbaa
open Go.RowKit
open Go.Proofs.YtdpgojcljlfnbaaW.PrintWords

/-- Is there a rune of which p holds? -/
def runeGo (p : Int → Bool) (s : ByteArray) : Nat → Nat → Bool
  | 0, _ => false
  | f + 1, i => if i < s.size then (if p (Utf8.decode s i).1 then true else runeGo p s f (i + (Utf8.decode s i).2)) else false
def runeB (p : Int → Bool) (s : ByteArray) : Bool := runeGo p s s.size 0
theorem runeGo_end (p : Int → Bool) (s : ByteArray) (f i : Nat) (h : ¬ i < s.size) : runeGo p s f i = false := by
  cases f with
  | zero => rfl
  | succ f => rw [runeGo, if_neg h]
def SomeIdx (b : Bool) (w : World) (e : Ending) (w' : World) : Prop := ∃ r : Int, e = .returned (.int .i64 r) ∧ decide (0 ≤ r) = b ∧ Below w.heap.size w w'

set_option maxHeartbeats 1000000 in
theorem indexFuncS_any (s : ByteArray) (f : Nat) (fst cap : Array Value) (p : Int → Bool) (w : World)
    (eg : ∀ args w, (callFunc f args).run Try.prog w = .ok (.enter f args) w)
    (hp : ∀ W, Below w.heap.size w W → ∀ x : Nat, Calls Try.prog f (fst.push (.int .i32 x) ++ cap) W fun e W' => e = .returned (.bool (p x)) ∧ Below W.heap.size W W') :
    Calls Try.prog 139 #[.string s, .func (.func f) fst cap, .bool true] w (SomeIdx (runeB p s) w) := by
  have HP := Lib.hid hp
  clear hp
  go_enter Try.func139, Try.ntmps139
  go_wp2
  go_loopg [] s.size (fun gf wx => ∃ pos : Nat, wx.heap[w.heap.size]? = some (.stringIter s pos) ∧ Below w.heap.size w wx ∧ Hid (runeGo p s gf pos = runeB p s) ∧ s.size ≤ pos + gf)
  case atStart => exact ⟨0, World.iter_heap w s 0, ba _ _, Lib.hid rfl, by omega⟩
  case round =>
    obtain ⟨pos, hit, hbw, hleft, hfu⟩ := hrel
    by_cases hps : pos < s.size
    · obtain ⟨g', rfl⟩ : ∃ g', gk = g' + 1 := ⟨gk - 1, by omega⟩
      have hnx : ∀ ty, (Instr.next (.pointer (some ⟨w.heap.size, 0, none⟩)) true ty).run Try.prog wr = _ := fun ty => Lib.run_next_any_at wr w.heap.size s pos ty hit hps
      have hwd := dec_pos s pos
      have hlf := hleft.out
      simp only [runeGo, hps, if_true] at hlf
      obtain ⟨R, hR⟩ : ∃ R, (Utf8.decode s pos).1 = R := ⟨_, rfl⟩
      obtain ⟨K, hK⟩ : ∃ K, (Utf8.decode s pos).2 = K := ⟨_, rfl⟩
      rw [hK, hR] at hlf
      rw [hR, hK] at hnx
      rw [hK] at hwd
      have hit2 := Lib.iterAt_heap wr w.heap.size s pos (pos + K) hit
      have hbw2 := Lib.below_iterAt hbw (k := w.heap.size) (Nat.le_refl _) s (pos + K)
      obtain ⟨W, hWd⟩ : ∃ W, wr.iterAt w.heap.size s (pos + K) = W := ⟨_, rfl⟩
      rw [hWd] at hnx hit2 hbw2
      have hltW : w.heap.size < W.heap.size := (Array.getElem?_eq_some_iff.1 hit2).1
      have hcall := Lib.hid (HP.out W hbw2 R)
      have HLF := Lib.hid hlf
      clear hlf hR hK hleft hWd hit hbw
      cases hp : p R
      · rw [hp] at hcall
        have HV : Hid (runeGo p s g' (pos + K) = runeB p s) := Lib.hid (by have h := HLF.out; rw [hp] at h; simpa using h)
        clear hp
        go_wp2_with fail
        refine hcall.out.mono ?_
        rintro e w1 ⟨rfl, hb1⟩
        go_wp2
        go_roundg g'
        case measure => omega
        case rel => exact ⟨pos + K, (hb1.block _ hltW).trans hit2, bt hbw2 hb1, HV, by omega⟩
      · rw [hp] at hcall
        have HV : Hid (true = runeB p s) := Lib.hid (by have h := HLF.out; rw [hp] at h; simpa using h)
        clear hp
        go_wp2_with fail
        refine hcall.out.mono ?_
        rintro e w1 ⟨rfl, hb1⟩
        go_wp2
        go_ret
        exact ⟨pos, rfl, by rw [← HV.out]; exact decide_eq_true (by omega), bt hbw2 hb1⟩
    · have hnx : ∀ ty, (Instr.next (.pointer (some ⟨w.heap.size, 0, none⟩)) true ty).run Try.prog wr = _ := fun ty => Lib.run_next_end_at wr w.heap.size s pos ty hit hps
      have HV := Lib.hid ((runeGo_end p s gk pos hps).symm.trans hleft.out)
      clear hleft
      go_wp2
      go_ret
      exact ⟨-1, rfl, by rw [← HV.out]; rfl, hbw⟩
theorem IndexFuncS_any (s : ByteArray) (f : Nat) (fst cap : Array Value) (p : Int → Bool) (w : World)
    (eg : ∀ args w, (callFunc f args).run Try.prog w = .ok (.enter f args) w)
    (hp : ∀ W, Below w.heap.size w W → ∀ x : Nat, Calls Try.prog f (fst.push (.int .i32 x) ++ cap) W fun e W' => e = .returned (.bool (p x)) ∧ Below W.heap.size W W') :
    Calls Try.prog 108 #[.string s, .func (.func f) fst cap] w (SomeIdx (runeB p s) w) := by
  have HC := Lib.hid (indexFuncS_any s f fst cap p w eg hp)
  clear hp eg
  go_enter Try.func108, Try.ntmps108
  go_wp2_with fail
  refine HC.out.mono ?_
  rintro e w1 ⟨r, rfl, h1, hb⟩
  have H1 := Lib.hid h1
  clear h1
  go_wp2
  go_ret
  exact ⟨r, rfl, H1.out, hb⟩
theorem ContainsFuncS_any (s : ByteArray) (f : Nat) (fst cap : Array Value) (p : Int → Bool) (w : World)
    (eg : ∀ args w, (callFunc f args).run Try.prog w = .ok (.enter f args) w)
    (hp : ∀ W, Below w.heap.size w W → ∀ x : Nat, Calls Try.prog f (fst.push (.int .i32 x) ++ cap) W fun e W' => e = .returned (.bool (p x)) ∧ Below W.heap.size W W') :
    Calls Try.prog 66 #[.string s, .func (.func f) fst cap] w fun e w' => e = .returned (.bool (runeB p s)) ∧ Below w.heap.size w w' := by
  have HC := Lib.hid (IndexFuncS_any s f fst cap p w eg hp)
  clear hp eg
  go_enter Try.func66, Try.ntmps66
  go_wp2_with fail
  refine HC.out.mono ?_
  rintro e w1 ⟨r, rfl, h1, hb⟩
  have H1 := Lib.hid h1
  clear h1
  go_wp2
  go_ret
  exact ⟨ret_bool H1.out, hb⟩
/-- A rune that a name can't have. -/
def oddRune (c : Int) : Bool := decide (c < 32) || decide (125 < c)
theorem oddRune_any (c : Int) (w : World) : Calls Try.prog 65 #[.int .i32 c] w fun e w' => e = .returned (.bool (oddRune c)) ∧ w = w' := by
  go_enter Try.func65, Try.ntmps65
  go_wp2
  all_goals (go_ret; exact ⟨ret_bool (by unfold oddRune; simp [*] <;> omega), rfl⟩)
theorem oddContains_any (s : ByteArray) (w : World) : Calls Try.prog 66 #[.string s, .func (.func 65) #[] #[]] w fun e w' => e = .returned (.bool (runeB oddRune s)) ∧ Below w.heap.size w w' :=
  ContainsFuncS_any s 65 #[] #[] oddRune w (fun _ _ => by kernel_rfl) (fun W _ x => (oddRune_any x W).mono fun e w' ⟨he, hw⟩ => ⟨he, hw ▸ Below.refl _ _⟩)
/-- Where the first = stands; -1: nowhere. -/
def eqIdx (s : ByteArray) : Int := Lib.indexByte s.data.toList 61
theorem indexByte_lt (l : List UInt8) (c : UInt8) : Lib.indexByte l c < l.length := by
  induction l with
  | nil => exact (by decide : (-1 : Int) < 0)
  | cons b l ih =>
    unfold Lib.indexByte
    rw [List.length_cons]
    split
    · omega
    · split <;> omega
theorem eqIdx_bd (s : ByteArray) : -1 ≤ eqIdx s ∧ eqIdx s < s.size := by
  refine ⟨Lib.indexByte_ge _ _, ?_⟩
  have := indexByte_lt s.data.toList 61
  simpa [eqIdx] using this
theorem liteCutNo_any (s : ByteArray) (w : World) (h : eqIdx s < 0) :
    Calls Try.prog 107 #[.string s, .string ⟨#[61]⟩] w fun e w' => e = .returned (.tuple #[.string s, .string ⟨#[]⟩, .bool false]) ∧ Below w.heap.size w w' := by
  have hx : Lib.indexByte s.data.toList 61 = -1 := by have := (eqIdx_bd s).1; unfold eqIdx at *; omega
  have HX := Lib.hid hx
  clear h hx
  go_enter Try.func107, Try.ntmps107
  go_wp2_with fail
  refine (Try.stringslite_Index_one s 61 w).mono ?_
  rintro e w1 ⟨rfl, rfl⟩
  rw [HX.out]
  go_wp2
  go_ret3
  exact ⟨rfl, Below.refl _ _⟩
theorem liteCutYes_any (s : ByteArray) (w : World) (k : Nat) (h : eqIdx s = (k : Int)) (hs : s.size ≤ 9223372036854775807) :
    Calls Try.prog 107 #[.string s, .string ⟨#[61]⟩] w fun e w' => e = .returned (.tuple #[.string (s.extract 0 k), .string (s.extract (k + 1) s.size), .bool true]) ∧ Below w.heap.size w w' := by
  have hx : Lib.indexByte s.data.toList 61 = (k : Int) := h
  have hk : k < s.size := by have := (eqIdx_bd s).2; omega
  have HX := Lib.hid hx
  clear h hx
  have e1 : IntKind.i64.wrap ((k : Int) + 1) = (k : Int) + 1 := IntWalk.i64_in _ (by omega)
  have e2 : ((k : Int) + 1).toNat = k + 1 := by omega
  have e3 : (k : Int) ≤ (s.size : Int) := by omega
  have e4 : (k : Int) + 1 ≤ (s.size : Int) := by omega
  have e5 : (0 : Int) ≤ (k : Int) + 1 := by omega
  have e6 : (0 : Int) ≤ (k : Int) := by omega
  go_enter Try.func107, Try.ntmps107
  go_wp2_with fail
  refine (Try.stringslite_Index_one s 61 w).mono ?_
  rintro e w1 ⟨rfl, rfl⟩
  rw [HX.out]
  go_wp2
  go_quiet (fail)
  go_wp2
  go_ret3
  exact ⟨rfl, bd _ _⟩
theorem CutNo_any (s : ByteArray) (w : World) (h : eqIdx s < 0) :
    Calls Try.prog 64 #[.string s, .string ⟨#[61]⟩] w fun e w' => e = .returned (.tuple #[.string s, .string ⟨#[]⟩, .bool false]) ∧ Below w.heap.size w w' := by
  have HC := Lib.hid (liteCutNo_any s w h)
  clear h
  go_enter Try.func64, Try.ntmps64
  go_wp2_with fail
  refine HC.out.mono ?_
  rintro e w1 ⟨rfl, hb⟩
  go_wp2
  go_ret3
  exact ⟨rfl, hb⟩
theorem CutYes_any (s : ByteArray) (w : World) (k : Nat) (h : eqIdx s = (k : Int)) (hs : s.size ≤ 9223372036854775807) :
    Calls Try.prog 64 #[.string s, .string ⟨#[61]⟩] w fun e w' => e = .returned (.tuple #[.string (s.extract 0 k), .string (s.extract (k + 1) s.size), .bool true]) ∧ Below w.heap.size w w' := by
  have HC := Lib.hid (liteCutYes_any s w k h hs)
  clear h hs
  go_enter Try.func64, Try.ntmps64
  go_wp2_with fail
  refine HC.out.mono ?_
  rintro e w1 ⟨rfl, hb⟩
  go_wp2
  go_ret3
  exact ⟨rfl, hb⟩
/-- Can a field be? -/
def fieldB (s : ByteArray) : Bool := decide (0 < eqIdx s) && (textB s && !runeB oddRune (s.extract 0 (eqIdx s).toNat))
theorem Field_any (s : ByteArray) (w : World) (hs : s.size ≤ 9223372036854775807) : Calls Try.prog 22 #[.string s] w fun e w' => e = .returned (.bool (fieldB s)) ∧ Below w.heap.size w w' := by
  have hbd := eqIdx_bd s
  by_cases h0 : eqIdx s < 0
  · have HV := Lib.hid (show fieldB s = false by unfold fieldB; rw [decide_eq_false (by omega), Bool.false_and])
    have HC := Lib.hid (CutNo_any s w h0)
    clear hbd h0
    go_enter Try.func22, Try.ntmps22
    go_wp2_with fail
    refine HC.out.mono ?_
    rintro e w1 ⟨rfl, hb⟩
    go_wp2
    go_ret
    exact ⟨ret_bool HV.out.symm, hb⟩
  · obtain ⟨k, hk⟩ : ∃ k : Nat, eqIdx s = (k : Int) := ⟨(eqIdx s).toNat, by omega⟩
    have hks : k < s.size := by omega
    have HC := Lib.hid (CutYes_any s w k hk hs)
    have hsz : (s.extract 0 k).size = k := by rw [ByteArray.size_extract]; omega
    obtain ⟨nm, hnm⟩ : ∃ nm, s.extract 0 k = nm := ⟨_, rfl⟩
    rw [hnm] at HC hsz
    have hv : fieldB s = (decide (0 < k) && (textB s && !runeB oddRune nm)) := by
      unfold fieldB
      rw [hk, Int.toNat_natCast, hnm]
      congr 1
      exact decide_eq_decide.2 (by omega)
    have HV := Lib.hid hv
    have HT := Lib.hid (fun W => Text_any s W)
    have HO := Lib.hid (fun W => oddContains_any nm W)
    clear hbd h0 hk hnm hv
    by_cases hk0 : k = 0
    · have hne : nm.toList = [] := by rw [ByteArray.toList_eq]; exact List.eq_nil_of_length_eq_zero (by rw [Array.length_toList]; show nm.size = 0; omega)
      have HVF : Hid (fieldB s = false) := Lib.hid (by rw [HV.out, decide_eq_false (by omega), Bool.false_and])
      clear hks hsz hk0
      go_enter Try.func22, Try.ntmps22
      go_wp2_with fail
      refine HC.out.mono ?_
      rintro e w1 ⟨rfl, hb⟩
      go_wp2
      go_ret
      exact ⟨ret_bool HVF.out.symm, hb⟩
    · have hne : ¬ (nm.toList = []) := by rw [ByteArray.toList_eq]; intro he; have h1 := congrArg List.length he; rw [Array.length_toList] at h1; have h2 : nm.size = 0 := h1; omega
      have hne2 : nm.toList.isEmpty = false := by cases hl : nm.toList with | nil => exact absurd hl hne | cons a l => rfl
      have hk1 : 0 < k := by omega
      have HVT : Hid (fieldB s = (textB s && !runeB oddRune nm)) := Lib.hid (by rw [HV.out, decide_eq_true hk1, Bool.true_and])
      clear hks hsz hk0
      go_enter Try.func22, Try.ntmps22
      go_wp2_with fail
      refine HC.out.mono ?_
      rintro e w1 ⟨rfl, hb⟩
      go_wp2_with fail
      refine (HT.out w1).mono ?_
      rintro e w2 ⟨rfl, hb2⟩
      cases ht : textB s
      · have HT0 := Lib.hid ht
        clear ht
        go_wp2
        go_ret
        exact ⟨ret_bool (by rw [HVT.out, HT0.out]; rfl), bt hb hb2⟩
      · have HT0 := Lib.hid ht
        clear ht
        go_wp2_with fail
        refine (HO.out w2).mono ?_
        rintro e w3 ⟨rfl, hb3⟩
        go_wp2
        go_ret
        exact ⟨ret_bool (by rw [HVT.out, HT0.out, Bool.true_and]), bt hb (bt hb2 hb3)⟩
end Go.Proofs.Ytdpgojcljlfnbaa
end
section
/- Contracts of meta.little, commentRight, commentBody; comments of up to a million fields of up to a million bytes. -/
set_option linter.unusedVariables false
set_option linter.unusedSimpArgs false
set_option maxRecDepth 100000
namespace Go.Proofs.Ytdpgojcljlfnbaa
open Go.RowKit
open Go.Proofs.YtdpgojcljlfnbaaW.PrintWords

/-- A number of four bytes, the lowest one first. -/
def littleL (n : Int) : List Int := [n % 256, n / 256 % 256, n / 65536 % 256, n / 16777216 % 256]
theorem little_any (n : Int) (w : World) (h0 : 0 ≤ n) (h1 : n ≤ 4294967295) : Calls Try.prog 137 #[.int .i64 n] w fun e w' => ∃ v, e = .returned v ∧ OwnI w' w.heap.size 5 .u8 v (littleL n) ∧ Below w.heap.size w w' := by
  have hmk : ∀ W : World, (Instr.makeSlice 37 (.int .i64 4) (.int .i64 4)).run Try.prog W = .ok (.slice (some ⟨W.heap.size, 0, none⟩) 4 4) (W.alloc (.cells #[.int .u8 0, .int .u8 0, .int .u8 0, .int .u8 0] 5)) := fun _ => by kernel_rfl
  go_enter Try.func137, Try.ntmps137
  go_wp2
  refine wp_loop_rounds 5 ?_
  rw [rounds_succ]
  go_wp2
  rw [rounds_succ]
  go_wp2
  rw [rounds_succ]
  go_wp2
  rw [rounds_succ]
  go_wp2
  rw [rounds_succ]
  go_wp2
  go_ret
  have hv : littleL n = [n % 256, n / 256 % 256, n / 65536 % 256, n / 16777216] := by
    have e : n / 16777216 % 256 = n / 16777216 := by omega
    unfold littleL; rw [e]
  refine ⟨_, rfl, ?_, ba _ _⟩
  rw [hv]
  exact own_lit w w.heap.size 5 .u8 [n % 256, n / 256 % 256, n / 65536 % 256, n / 16777216] (Nat.le_refl _) (by simp)

abbrev ReadsS (w : World) (A : Option Addr) (n : Nat) (fs : List ByteArray) : Prop := ReadsOf Value.string ByteArray.empty w A n fs
theorem rdS_nat {w : World} {A : Option Addr} {n : Nat} {fs : List ByteArray} (h : ReadsS w A n fs) {k : Nat} (hk : k < n) : ∃ ad, A = some ad ∧ w.cell? (ad.add k) = some (.string (fs.getD k ByteArray.empty)) := by
  obtain ⟨ad, e, hc⟩ := h.2.2 (by omega)
  exact ⟨ad, e, hc k hk⟩
theorem anyS_take_succ (p : ByteArray → Bool) (xs : List ByteArray) (k : Nat) (hk : k < xs.length) : (xs.take (k + 1)).any p = ((xs.take k).any p || p (xs.getD k ByteArray.empty)) := by
  rw [List.take_succ_eq_append_getElem hk, List.any_append]
  simp [List.getD_eq_getElem?_getD, List.getElem?_eq_getElem hk]
theorem getDS_mem (xs : List ByteArray) (k : Nat) (hk : k < xs.length) : xs.getD k ByteArray.empty ∈ xs := by
  simp [List.getD_eq_getElem?_getD, List.getElem?_eq_getElem hk]
theorem takeS_snoc (xs : List ByteArray) (k : Nat) (hk : k < xs.length) : xs.take (k + 1) = xs.take k ++ [xs.getD k ByteArray.empty] := by
  rw [List.take_succ_eq_append_getElem hk]
  simp [List.getD_eq_getElem?_getD, List.getElem?_eq_getElem hk]

theorem IndexFuncSS_any (A : Option Addr) (n c : Nat) (xs : List ByteArray) (f : Nat) (fst cap : Array Value) (p : ByteArray → Bool) (w : World) (hr : ReadsS w A n xs)
    (eg : ∀ args w, (callFunc f args).run Try.prog w = .ok (.enter f args) w)
    (hp : ∀ W, Below w.heap.size w W → ∀ x, x ∈ xs → Calls Try.prog f (fst.push (.string x) ++ cap) W fun e W' => e = .returned (.bool (p x)) ∧ Below W.heap.size W W') :
    Calls Try.prog 154 #[.slice A n c, .func (.func f) fst cap] w (SomeIdx (xs.any p) w) := by
  have HP := Lib.hid hp
  clear hp
  have HR := Lib.hid hr
  obtain ⟨hl, hm, _⟩ := hr
  have hn : n ≤ 9223372036854775807 := hm
  clear hm
  subst hl
  go_enter Try.func154, Try.ntmps154
  go_wp2
  go_loopw [8] (fun i wr => ∃ k : Nat, k ≤ xs.length ∧ i = .int .i64 k ∧ Below w.heap.size w wr ∧ Hid ((xs.take k).any p = false)) (fun i _ => xs.length - (intOf i).toNat)
  case atStart => exact ⟨0, Nat.zero_le _, rfl, Below.refl _ _, Lib.hid (by simp)⟩
  case round =>
    obtain ⟨k, hk, rfl, hb, hno⟩ := hrel
    by_cases hlt : k < xs.length
    · obtain ⟨ad, rfl, hc⟩ := rdS_nat (HR.out.below hb) hlt
      have hmem := getDS_mem xs k hlt
      have hts := anyS_take_succ p xs k hlt
      obtain ⟨x, hx⟩ : ∃ x, xs.getD k ByteArray.empty = x := ⟨_, rfl⟩
      rw [hx] at hc hmem hts
      have hcall := Lib.hid (HP.out wr hb _ hmem)
      have hany : p x = true → xs.any p = true := fun h => List.any_eq_true.2 ⟨_, hmem, h⟩
      have HANY := Lib.hid hany; have HTS := Lib.hid hts
      clear hany hmem hx hts
      cases hp : p x
      · rw [hp] at hcall
        have HPK := Lib.hid hp; clear hp
        go_wp2
        refine hcall.out.mono ?_
        rintro e w1 ⟨rfl, hb1⟩
        go_wp2
        go_roundw
        case rel => exact ⟨k + 1, by omega, by go_num, hb.trans (hb1.mono hb.size), Lib.hid (by rw [HTS.out, hno.out, HPK.out]; rfl)⟩
        case measure => simp [intOf]; omega
      · rw [hp] at hcall
        have HA := Lib.hid (HANY.out hp); clear hp
        go_wp2
        refine hcall.out.mono ?_
        rintro e w1 ⟨rfl, hb1⟩
        go_wp2
        go_ret
        exact ⟨k, rfl, by rw [HA.out]; exact decide_eq_true (by omega), hb.trans (hb1.mono hb.size)⟩
    · have HV : Hid (xs.any p = false) := Lib.hid (by have := hno.out; rwa [List.take_of_length_le (by omega)] at this)
      go_wp2
      go_ret
      exact ⟨-1, rfl, by rw [HV.out]; rfl, hb⟩
theorem ContainsFuncSS_any (A : Option Addr) (n c : Nat) (xs : List ByteArray) (f : Nat) (fst cap : Array Value) (p : ByteArray → Bool) (w : World) (hr : ReadsS w A n xs)
    (eg : ∀ args w, (callFunc f args).run Try.prog w = .ok (.enter f args) w)
    (hp : ∀ W, Below w.heap.size w W → ∀ x, x ∈ xs → Calls Try.prog f (fst.push (.string x) ++ cap) W fun e W' => e = .returned (.bool (p x)) ∧ Below W.heap.size W W') :
    Calls Try.prog 135 #[.slice A n c, .func (.func f) fst cap] w fun e w' => e = .returned (.bool (xs.any p)) ∧ Below w.heap.size w w' := by
  have HC := Lib.hid (IndexFuncSS_any A n c xs f fst cap p w hr eg hp)
  clear hr hp eg
  go_enter Try.func135, Try.ntmps135
  go_wp2_with fail
  refine HC.out.mono ?_
  rintro e w1 ⟨r, rfl, h1, hb⟩
  have H1 := Lib.hid h1
  clear h1
  go_wp2
  go_ret
  exact ⟨ret_bool H1.out, hb⟩
theorem notField_any (s : ByteArray) (w : World) (hs : s.size ≤ 9223372036854775807) : Calls Try.prog 136 #[.string s] w fun e w' => e = .returned (.bool (!fieldB s)) ∧ Below w.heap.size w w' := by
  go_enter Try.func136, Try.ntmps136
  go_wp2_with fail
  refine (Field_any s w hs).mono ?_
  rintro e w1 ⟨rfl, hb⟩
  go_wp2
  go_ret
  exact ⟨rfl, hb⟩
def fieldsSize (fs : List ByteArray) : Nat := (fs.map fun f => 4 + f.size).sum
theorem fieldsSize_bd (fs : List ByteArray) (h : ∀ f ∈ fs, f.size ≤ 1000000) : fieldsSize fs ≤ 1000004 * fs.length := by
  induction fs with
  | nil => simp [fieldsSize]
  | cons f fs ih =>
    have h1 := ih (fun x hx => h x (List.mem_cons_of_mem _ hx))
    have h2 := h f List.mem_cons_self
    simp only [fieldsSize, List.map_cons, List.sum_cons, List.length_cons] at *
    omega
theorem fieldsSize_snoc (fs : List ByteArray) (f : ByteArray) : fieldsSize (fs ++ [f]) = fieldsSize fs + (4 + f.size) := by simp [fieldsSize]
/-- Can a comment be? -/
def commentB (mk : ByteArray) (fs : List ByteArray) : Bool := textB mk && (decide (8 + mk.size + fieldsSize fs ≤ 16777215) && !fs.any fun f => !fieldB f)
set_option maxHeartbeats 1000000 in
theorem commentRight_any (mk : ByteArray) (A : Option Addr) (n c : Nat) (fs : List ByteArray) (w : World) (hr : ReadsS w A n fs) (hn : n ≤ 1000000) (hm : mk.size ≤ 1000000) (hf : ∀ f ∈ fs, f.size ≤ 1000000) :
    Calls Try.prog 102 #[.agg #[.string mk, .slice A n c]] w fun e w' => e = .returned (.bool (commentB mk fs)) ∧ Below w.heap.size w w' := by
  have HR := Lib.hid hr; have HF := Lib.hid hf
  have hl := hr.1
  clear hr hf
  subst hl
  obtain ⟨W0, hW0⟩ : ∃ W0, w.alloc (Obj.cells #[.string mk, .slice A fs.length c] 49) = W0 := ⟨_, rfl⟩
  have hblk0 : W0.heap[w.heap.size]? = some (.cells #[.string mk, .slice A fs.length c] 49 (0, 0)) := by rw [← hW0]; exact heap_alloc_new w _
  have hb0 : Below w.heap.size w W0 := by rw [← hW0]; exact ba _ _
  have HB0 := Lib.hid hblk0
  have h00 : W0.cell? ⟨w.heap.size, 0, none⟩ = some (.string mk) := blk_cell hblk0 0
  have h01 : W0.cell? ⟨w.heap.size, 1, none⟩ = some (.slice A fs.length c) := blk_cell hblk0 1
  clear hblk0
  go_enter Try.func102, Try.ntmps102
  have hfs0 := fieldsSize_bd fs HF.out
  have htot : fieldsSize fs ≤ 1000004 * 1000000 := Nat.le_trans hfs0 (Nat.mul_le_mul_left _ hn)
  clear hfs0
  go_wp2_with fail
  clear hW0
  go_loopw [3, 13] (fun v i wr => Hid (∃ j : Nat, j ≤ fs.length ∧ i = .int .i64 j ∧ v = .int .i64 (8 + mk.size + (fieldsSize (fs.take j) : Nat)) ∧ wr = W0)) (fun _ i _ => fs.length - (intOf i).toNat)
  case atStart => exact Lib.hid ⟨0, Nat.zero_le _, rfl, by simp [fieldsSize], rfl⟩
  case round =>
    obtain ⟨j, hj, rfl, rfl, rfl⟩ := hrel.out
    clear hrel
    by_cases hlt : j < fs.length
    · obtain ⟨ad, rfl, hc⟩ := rdS_nat (HR.out.below hb0) hlt
      have hts := takeS_snoc fs j hlt
      have hmem := getDS_mem fs j hlt
      obtain ⟨f, hf⟩ : ∃ f, fs.getD j ByteArray.empty = f := ⟨_, rfl⟩
      rw [hf] at hc hts hmem
      have hfz := HF.out f hmem
      have hsn : fieldsSize (fs.take (j + 1)) = fieldsSize (fs.take j) + (4 + f.size) := by rw [hts, fieldsSize_snoc]
      have hle : fieldsSize (fs.take j) ≤ 1000004 * 1000000 := by
        refine Nat.le_trans (fieldsSize_bd _ fun x hx => HF.out x (List.mem_of_mem_take hx)) ?_
        exact Nat.mul_le_mul_left _ (by rw [List.length_take]; omega)
      obtain ⟨S, hS⟩ : ∃ S, fieldsSize (fs.take j) = S := ⟨_, rfl⟩
      rw [hS] at hsn hle ⊢
      have HSN := Lib.hid hsn
      clear hf hts hmem hsn hS
      go_wp2
      go_roundw
      case rel => exact Lib.hid ⟨j + 1, by omega, by go_num, by rw [HSN.out, Int.natCast_add]; simp; omega, by first | rfl | trivial⟩
      case measure => simp [intOf]; omega
    · obtain rfl : j = fs.length := by omega
      rw [List.take_length]
      obtain ⟨S, hS⟩ : ∃ S, fieldsSize fs = S := ⟨_, rfl⟩
      have hv : commentB mk fs = (textB mk && (decide (8 + mk.size + S ≤ 16777215) && !fs.any fun f => !fieldB f)) := by unfold commentB; rw [hS]
      rw [hS] at htot ⊢
      have HV := Lib.hid hv
      have HC := Lib.hid (fun W hb => ContainsFuncSS_any A fs.length c fs 136 #[] #[] (fun f => !fieldB f) W (HR.out.below (bt hb0 hb)) (fun _ _ => by kernel_rfl) (fun W' _ x hx => notField_any x W' (Nat.le_trans (HF.out x hx) (by decide))))
      clear hS hv
      go_wp2_with fail
      refine (Text_any mk wr).mono ?_
      rintro e w2 ⟨rfl, hb2⟩
      have g1 : w2.cell? ⟨w.heap.size, 1, none⟩ = some (.slice A fs.length c) := pw_cell_below hb2 h01
      cases ht : textB mk
      · have HVF : Hid (commentB mk fs = false) := Lib.hid (by rw [HV.out, ht]; rfl)
        clear ht
        go_wp2
        go_ret
        exact ⟨ret_bool HVF.out.symm, bt hb0 hb2⟩
      · have HT := Lib.hid ht
        clear ht
        by_cases hS : 8 + mk.size + S ≤ 16777215
        · have hSd : decide ((8 : Int) + mk.size + S ≤ 16777215) = true := decide_eq_true (by omega)
          have HVT : Hid (commentB mk fs = !fs.any fun f => !fieldB f) := Lib.hid (by rw [HV.out, HT.out, decide_eq_true hS, Bool.true_and, Bool.true_and])
          go_wp2_with fail
          refine (HC.out w2 hb2).mono ?_
          rintro e w3 ⟨rfl, hb3⟩
          go_wp2
          go_ret
          exact ⟨ret_bool HVT.out.symm, bt hb0 (bt hb2 hb3)⟩
        · have hSd : decide ((8 : Int) + mk.size + S ≤ 16777215) = false := decide_eq_false (by omega)
          have HVF : Hid (commentB mk fs = false) := Lib.hid (by rw [HV.out, HT.out, decide_eq_false hS]; rfl)
          go_wp2
          go_ret
          exact ⟨ret_bool HVF.out.symm, bt hb0 hb2⟩
end Go.Proofs.Ytdpgojcljlfnbaa
end
