/- Contracts of meta.little, commentRight, commentBody; comments of up to a million fields of up to a million bytes. -/
import Derived.Test.YtdpgojcljlfnbaaField
--DEV
set_option linter.unusedVariables false
set_option linter.unusedSimpArgs false
set_option maxRecDepth 100000
namespace Go.Proofs.Ytdpgojcljlfnbaa
open Go.RowKit
open Go.Proofs.YtdpgojcljlfnbaaW.PrintWords

/-- A number of four bytes, the lowest one first. -/
def littleL (n : Int) : List Int := [n % 256, n / 256 % 256, n / 65536 % 256, n / 16777216 % 256]
theorem little_any (n : Int) (w : World) (h0 : 0 ≤ n) (h1 : n ≤ 4294967295) : Calls Try.prog 137 #[.int .i64 n] w fun e w' => ∃ v, e = .returned v ∧ OwnI w' w.heap.size 5 .u8 v (littleL n) ∧ Below w.heap.size w w' := by
  have hmk : ∀ W : World, (Instr.makeSlice 37 (.int .i64 4) (.int .i64 4)).run Try.prog W = .ok (.slice (some ⟨W.heap.size, 0, none⟩) 4 4) (W.alloc (.cells #[.int .u8 0, .int .u8 0, .int .u8 0, .int .u8 0] 5)) := fun _ => by kernel_rfl
  go_enter Try.func137, Try.ntmps137
  go_wp2
  refine wp_loop_rounds 5 ?_
  rw [rounds_succ]
  go_wp2
  rw [rounds_succ]
  go_wp2
  rw [rounds_succ]
  go_wp2
  rw [rounds_succ]
  go_wp2
  rw [rounds_succ]
  go_wp2
  go_ret
  have hv : littleL n = [n % 256, n / 256 % 256, n / 65536 % 256, n / 16777216] := by
    have e : n / 16777216 % 256 = n / 16777216 := by omega
    unfold littleL; rw [e]
  refine ⟨_, rfl, ?_, ba _ _⟩
  rw [hv]
  exact own_lit w w.heap.size 5 .u8 [n % 256, n / 256 % 256, n / 65536 % 256, n / 16777216] (Nat.le_refl _) (by simp)

abbrev ReadsS (w : World) (A : Option Addr) (n : Nat) (fs : List ByteArray) : Prop := ReadsOf Value.string ByteArray.empty w A n fs
theorem rdS_nat {w : World} {A : Option Addr} {n : Nat} {fs : List ByteArray} (h : ReadsS w A n fs) {k : Nat} (hk : k < n) : ∃ ad, A = some ad ∧ w.cell? (ad.add k) = some (.string (fs.getD k ByteArray.empty)) := by
  obtain ⟨ad, e, hc⟩ := h.2.2 (by omega)
  exact ⟨ad, e, hc k hk⟩
theorem anyS_take_succ (p : ByteArray → Bool) (xs : List ByteArray) (k : Nat) (hk : k < xs.length) : (xs.take (k + 1)).any p = ((xs.take k).any p || p (xs.getD k ByteArray.empty)) := by
  rw [List.take_succ_eq_append_getElem hk, List.any_append]
  simp [List.getD_eq_getElem?_getD, List.getElem?_eq_getElem hk]
theorem getDS_mem (xs : List ByteArray) (k : Nat) (hk : k < xs.length) : xs.getD k ByteArray.empty ∈ xs := by
  simp [List.getD_eq_getElem?_getD, List.getElem?_eq_getElem hk]
theorem takeS_snoc (xs : List ByteArray) (k : Nat) (hk : k < xs.length) : xs.take (k + 1) = xs.take k ++ [xs.getD k ByteArray.empty] := by
  rw [List.take_succ_eq_append_getElem hk]
  simp [List.getD_eq_getElem?_getD, List.getElem?_eq_getElem hk]

theorem IndexFuncSS_any (A : Option Addr) (n c : Nat) (xs : List ByteArray) (f : Nat) (fst cap : Array Value) (p : ByteArray → Bool) (w : World) (hr : ReadsS w A n xs)
    (eg : ∀ args w, (callFunc f args).run Try.prog w = .ok (.enter f args) w)
    (hp : ∀ W, Below w.heap.size w W → ∀ x, x ∈ xs → Calls Try.prog f (fst.push (.string x) ++ cap) W fun e W' => e = .returned (.bool (p x)) ∧ Below W.heap.size W W') :
    Calls Try.prog 154 #[.slice A n c, .func (.func f) fst cap] w (SomeIdx (xs.any p) w) := by
  have HP := Lib.hid hp
  clear hp
  have HR := Lib.hid hr
  obtain ⟨hl, hm, _⟩ := hr
  have hn : n ≤ 9223372036854775807 := hm
  clear hm
  subst hl
  go_enter Try.func154, Try.ntmps154
  go_wp2
  go_loopw [8] (fun i wr => ∃ k : Nat, k ≤ xs.length ∧ i = .int .i64 k ∧ Below w.heap.size w wr ∧ Hid ((xs.take k).any p = false)) (fun i _ => xs.length - (intOf i).toNat)
  case atStart => exact ⟨0, Nat.zero_le _, rfl, Below.refl _ _, Lib.hid (by simp)⟩
  case round =>
    obtain ⟨k, hk, rfl, hb, hno⟩ := hrel
    by_cases hlt : k < xs.length
    · obtain ⟨ad, rfl, hc⟩ := rdS_nat (HR.out.below hb) hlt
      have hmem := getDS_mem xs k hlt
      have hts := anyS_take_succ p xs k hlt
      obtain ⟨x, hx⟩ : ∃ x, xs.getD k ByteArray.empty = x := ⟨_, rfl⟩
      rw [hx] at hc hmem hts
      have hcall := Lib.hid (HP.out wr hb _ hmem)
      have hany : p x = true → xs.any p = true := fun h => List.any_eq_true.2 ⟨_, hmem, h⟩
      have HANY := Lib.hid hany; have HTS := Lib.hid hts
      clear hany hmem hx hts
      cases hp : p x
      · rw [hp] at hcall
        have HPK := Lib.hid hp; clear hp
        go_wp2
        refine hcall.out.mono ?_
        rintro e w1 ⟨rfl, hb1⟩
        go_wp2
        go_roundw
        case rel => exact ⟨k + 1, by omega, by go_num, hb.trans (hb1.mono hb.size), Lib.hid (by rw [HTS.out, hno.out, HPK.out]; rfl)⟩
        case measure => simp [intOf]; omega
      · rw [hp] at hcall
        have HA := Lib.hid (HANY.out hp); clear hp
        go_wp2
        refine hcall.out.mono ?_
        rintro e w1 ⟨rfl, hb1⟩
        go_wp2
        go_ret
        exact ⟨k, rfl, by rw [HA.out]; exact decide_eq_true (by omega), hb.trans (hb1.mono hb.size)⟩
    · have HV : Hid (xs.any p = false) := Lib.hid (by have := hno.out; rwa [List.take_of_length_le (by omega)] at this)
      go_wp2
      go_ret
      exact ⟨-1, rfl, by rw [HV.out]; rfl, hb⟩
theorem ContainsFuncSS_any (A : Option Addr) (n c : Nat) (xs : List ByteArray) (f : Nat) (fst cap : Array Value) (p : ByteArray → Bool) (w : World) (hr : ReadsS w A n xs)
    (eg : ∀ args w, (callFunc f args).run Try.prog w = .ok (.enter f args) w)
    (hp : ∀ W, Below w.heap.size w W → ∀ x, x ∈ xs → Calls Try.prog f (fst.push (.string x) ++ cap) W fun e W' => e = .returned (.bool (p x)) ∧ Below W.heap.size W W') :
    Calls Try.prog 135 #[.slice A n c, .func (.func f) fst cap] w fun e w' => e = .returned (.bool (xs.any p)) ∧ Below w.heap.size w w' := by
  have HC := Lib.hid (IndexFuncSS_any A n c xs f fst cap p w hr eg hp)
  clear hr hp eg
  go_enter Try.func135, Try.ntmps135
  go_wp2_with fail
  refine HC.out.mono ?_
  rintro e w1 ⟨r, rfl, h1, hb⟩
  have H1 := Lib.hid h1
  clear h1
  go_wp2
  go_ret
  exact ⟨ret_bool H1.out, hb⟩
theorem notField_any (s : ByteArray) (w : World) (hs : s.size ≤ 9223372036854775807) : Calls Try.prog 136 #[.string s] w fun e w' => e = .returned (.bool (!fieldB s)) ∧ Below w.heap.size w w' := by
  go_enter Try.func136, Try.ntmps136
  go_wp2_with fail
  refine (Field_any s w hs).mono ?_
  rintro e w1 ⟨rfl, hb⟩
  go_wp2
  go_ret
  exact ⟨rfl, hb⟩
def fieldsSize (fs : List ByteArray) : Nat := (fs.map fun f => 4 + f.size).sum
theorem fieldsSize_bd (fs : List ByteArray) (h : ∀ f ∈ fs, f.size ≤ 1000000) : fieldsSize fs ≤ 1000004 * fs.length := by
  induction fs with
  | nil => simp [fieldsSize]
  | cons f fs ih =>
    have h1 := ih (fun x hx => h x (List.mem_cons_of_mem _ hx))
    have h2 := h f List.mem_cons_self
    simp only [fieldsSize, List.map_cons, List.sum_cons, List.length_cons] at *
    omega
theorem fieldsSize_snoc (fs : List ByteArray) (f : ByteArray) : fieldsSize (fs ++ [f]) = fieldsSize fs + (4 + f.size) := by simp [fieldsSize]
/-- Can a comment be? -/
def commentB (mk : ByteArray) (fs : List ByteArray) : Bool := textB mk && (decide (8 + mk.size + fieldsSize fs ≤ 16777215) && !fs.any fun f => !fieldB f)
set_option maxHeartbeats 1000000 in
theorem commentRight_any (mk : ByteArray) (A : Option Addr) (n c : Nat) (fs : List ByteArray) (w : World) (hr : ReadsS w A n fs) (hn : n ≤ 1000000) (hm : mk.size ≤ 1000000) (hf : ∀ f ∈ fs, f.size ≤ 1000000) :
    Calls Try.prog 102 #[.agg #[.string mk, .slice A n c]] w fun e w' => e = .returned (.bool (commentB mk fs)) ∧ Below w.heap.size w w' := by
  have HR := Lib.hid hr; have HF := Lib.hid hf
  have hl := hr.1
  clear hr hf
  subst hl
  obtain ⟨W0, hW0⟩ : ∃ W0, w.alloc (Obj.cells #[.string mk, .slice A fs.length c] 49) = W0 := ⟨_, rfl⟩
  have hblk0 : W0.heap[w.heap.size]? = some (.cells #[.string mk, .slice A fs.length c] 49 (0, 0)) := by rw [← hW0]; exact heap_alloc_new w _
  have hb0 : Below w.heap.size w W0 := by rw [← hW0]; exact ba _ _
  have HB0 := Lib.hid hblk0
  have h00 : W0.cell? ⟨w.heap.size, 0, none⟩ = some (.string mk) := blk_cell hblk0 0
  have h01 : W0.cell? ⟨w.heap.size, 1, none⟩ = some (.slice A fs.length c) := blk_cell hblk0 1
  clear hblk0
  go_enter Try.func102, Try.ntmps102
  have hfs0 := fieldsSize_bd fs HF.out
  have htot : fieldsSize fs ≤ 1000004 * 1000000 := Nat.le_trans hfs0 (Nat.mul_le_mul_left _ hn)
  clear hfs0
  go_wp2_with fail
  clear hW0
  go_loopw [3, 13] (fun v i wr => Hid (∃ j : Nat, j ≤ fs.length ∧ i = .int .i64 j ∧ v = .int .i64 (8 + mk.size + (fieldsSize (fs.take j) : Nat)) ∧ wr = W0)) (fun _ i _ => fs.length - (intOf i).toNat)
  case atStart => exact Lib.hid ⟨0, Nat.zero_le _, rfl, by simp [fieldsSize], rfl⟩
  case round =>
    obtain ⟨j, hj, rfl, rfl, rfl⟩ := hrel.out
    clear hrel
    by_cases hlt : j < fs.length
    · obtain ⟨ad, rfl, hc⟩ := rdS_nat (HR.out.below hb0) hlt
      have hts := takeS_snoc fs j hlt
      have hmem := getDS_mem fs j hlt
      obtain ⟨f, hf⟩ : ∃ f, fs.getD j ByteArray.empty = f := ⟨_, rfl⟩
      rw [hf] at hc hts hmem
      have hfz := HF.out f hmem
      have hsn : fieldsSize (fs.take (j + 1)) = fieldsSize (fs.take j) + (4 + f.size) := by rw [hts, fieldsSize_snoc]
      have hle : fieldsSize (fs.take j) ≤ 1000004 * 1000000 := by
        refine Nat.le_trans (fieldsSize_bd _ fun x hx => HF.out x (List.mem_of_mem_take hx)) ?_
        exact Nat.mul_le_mul_left _ (by rw [List.length_take]; omega)
      obtain ⟨S, hS⟩ : ∃ S, fieldsSize (fs.take j) = S := ⟨_, rfl⟩
      rw [hS] at hsn hle ⊢
      have HSN := Lib.hid hsn
      clear hf hts hmem hsn hS
      go_wp2
      go_roundw
      case rel => exact Lib.hid ⟨j + 1, by omega, by go_num, by rw [HSN.out, Int.natCast_add]; simp; omega, by first | rfl | trivial⟩
      case measure => simp [intOf]; omega
    · obtain rfl : j = fs.length := by omega
      rw [List.take_length]
      obtain ⟨S, hS⟩ : ∃ S, fieldsSize fs = S := ⟨_, rfl⟩
      have hv : commentB mk fs = (textB mk && (decide (8 + mk.size + S ≤ 16777215) && !fs.any fun f => !fieldB f)) := by unfold commentB; rw [hS]
      rw [hS] at htot ⊢
      have HV := Lib.hid hv
      have HC := Lib.hid (fun W hb => ContainsFuncSS_any A fs.length c fs 136 #[] #[] (fun f => !fieldB f) W (HR.out.below (bt hb0 hb)) (fun _ _ => by kernel_rfl) (fun W' _ x hx => notField_any x W' (Nat.le_trans (HF.out x hx) (by decide))))
      clear hS hv
      go_wp2_with fail
      refine (Text_any mk wr).mono ?_
      rintro e w2 ⟨rfl, hb2⟩
      have g1 : w2.cell? ⟨w.heap.size, 1, none⟩ = some (.slice A fs.length c) := pw_cell_below hb2 h01
      cases ht : textB mk
      · have HVF : Hid (commentB mk fs = false) := Lib.hid (by rw [HV.out, ht]; rfl)
        clear ht
        go_wp2
        go_ret
        exact ⟨ret_bool HVF.out.symm, bt hb0 hb2⟩
      · have HT := Lib.hid ht
        clear ht
        by_cases hS : 8 + mk.size + S ≤ 16777215
        · have hSd : decide ((8 : Int) + mk.size + S ≤ 16777215) = true := decide_eq_true (by omega)
          have HVT : Hid (commentB mk fs = !fs.any fun f => !fieldB f) := Lib.hid (by rw [HV.out, HT.out, decide_eq_true hS, Bool.true_and, Bool.true_and])
          go_wp2_with fail
          refine (HC.out w2 hb2).mono ?_
          rintro e w3 ⟨rfl, hb3⟩
          go_wp2
          go_ret
          exact ⟨ret_bool HVT.out.symm, bt hb0 (bt hb2 hb3)⟩
        · have hSd : decide ((8 : Int) + mk.size + S ≤ 16777215) = false := decide_eq_false (by omega)
          have HVF : Hid (commentB mk fs = false) := Lib.hid (by rw [HV.out, HT.out, decide_eq_false hS]; rfl)
          go_wp2
          go_ret
          exact ⟨ret_bool HVF.out.symm, bt hb0 hb2⟩
end Go.Proofs.Ytdpgojcljlfnbaa
