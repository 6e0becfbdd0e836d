/- Contracts of the library's functions on lists of numbers: Clone, IndexFunc, ContainsFunc; no condition but that the list is read. -/
import Derived.Test.YtdpgojcljlfnbaaScal
set_option linter.unusedVariables false
set_option linter.unusedSimpArgs false
set_option maxRecDepth 100000
namespace Go.Proofs.Ytdpgojcljlfnbaa
open Go.RowKit
open Go.Proofs.YtdpgojcljlfnbaaW.PrintWords

theorem rd_nat {w : World} {kd : IntKind} {A : Option Addr} {n : Nat} {xs : List Int} (h : ReadsInt w kd A n xs) {k : Nat} (hk : k < n) : ∃ ad, A = some ad ∧ w.cell? (ad.add k) = some (.int kd (xs.getD k 0)) := by
  obtain ⟨ad, e, hc⟩ := h.2.2 (by omega)
  exact ⟨ad, e, hc k hk⟩
theorem any_take_succ (p : Int → Bool) (xs : List Int) (k : Nat) (hk : k < xs.length) : (xs.take (k + 1)).any p = ((xs.take k).any p || p (xs.getD k 0)) := by
  rw [List.take_succ_eq_append_getElem hk, List.any_append]
  simp [List.getD_eq_getElem?_getD, List.getElem?_eq_getElem hk]
theorem getD_mem (xs : List Int) (k : Nat) (hk : k < xs.length) : xs.getD k 0 ∈ xs := by
  simp [List.getD_eq_getElem?_getD, List.getElem?_eq_getElem hk]

/-- Where the first number is of which p holds; -1: nowhere. -/
def idxOf (p : Int → Bool) : List Int → Int
  | [] => -1
  | x :: xs => if p x then 0 else (if idxOf p xs < 0 then -1 else idxOf p xs + 1)

theorem IndexFunc_any (A : Option Addr) (n c : Nat) (xs : List Int) (f : Nat) (fst cap : Array Value) (p : Int → Bool) (w : World) (hr : ReadsInt w .i64 A n xs)
    (eg : ∀ args w, (callFunc f args).run Try.prog w = .ok (.enter f args) w)
    (hp : ∀ W, Below w.heap.size w W → ∀ x, x ∈ xs → Calls Try.prog f (fst.push (.int .i64 x) ++ cap) W fun e W' => e = .returned (.bool (p x)) ∧ Below W.heap.size W W') :
    Calls Try.prog 125 #[.slice A n c, .func (.func f) fst cap] w fun e w' => ∃ r : Int, e = .returned (.int .i64 r) ∧ (r < 0 → xs.any p = false) ∧ (0 ≤ r → xs.any p = true) ∧ Below w.heap.size w w' := by
  have HP := Lib.hid hp
  clear hp
  have HR := Lib.hid hr
  obtain ⟨hl, hm, _⟩ := hr
  have hn : n ≤ 9223372036854775807 := hm
  clear hm
  subst hl
  go_enter Try.func125, Try.ntmps125
  go_wp2
  go_loopw [8] (fun i wr => ∃ k : Nat, k ≤ xs.length ∧ i = .int .i64 k ∧ Below w.heap.size w wr ∧ Hid ((xs.take k).any p = false)) (fun i _ => xs.length - (intOf i).toNat)
  case atStart => exact ⟨0, Nat.zero_le _, rfl, Below.refl _ _, Lib.hid (by simp)⟩
  case round =>
    obtain ⟨k, hk, rfl, hb, hno⟩ := hrel
    by_cases hlt : k < xs.length
    · obtain ⟨ad, rfl, hc⟩ := rd_nat (HR.out.below hb) hlt
      have hmem := getD_mem xs k hlt
      have hts := any_take_succ p xs k hlt
      obtain ⟨x, hx⟩ : ∃ x, xs.getD k 0 = x := ⟨_, rfl⟩
      rw [hx] at hc hmem hts
      have hcall := Lib.hid (HP.out wr hb _ hmem)
      have hany : p x = true → xs.any p = true := fun h => List.any_eq_true.2 ⟨_, hmem, h⟩
      have HANY := Lib.hid hany; have HTS := Lib.hid hts
      clear hany hmem hx hts
      cases hp : p x
      · rw [hp] at hcall
        have HPK := Lib.hid hp; clear hp
        go_wp2
        refine hcall.out.mono ?_
        rintro e w1 ⟨rfl, hb1⟩
        go_wp2
        go_roundw
        case rel => exact ⟨k + 1, by omega, by go_num, hb.trans (hb1.mono hb.size), Lib.hid (by rw [HTS.out, hno.out, HPK.out]; rfl)⟩
        case measure => simp [intOf]; omega
      · rw [hp] at hcall
        have HA := Lib.hid (HANY.out hp); clear hp
        go_wp2
        refine hcall.out.mono ?_
        rintro e w1 ⟨rfl, hb1⟩
        go_wp2
        go_ret
        exact ⟨k, rfl, fun h => by omega, fun _ => HA.out, hb.trans (hb1.mono hb.size)⟩
    · go_wp2
      go_ret
      refine ⟨-1, rfl, fun _ => ?_, fun h => by omega, hb⟩
      have := hno.out
      rwa [List.take_of_length_le (by omega)] at this

theorem ContainsFunc_any (A : Option Addr) (n c : Nat) (xs : List Int) (f : Nat) (fst cap : Array Value) (p : Int → Bool) (w : World) (hr : ReadsInt w .i64 A n xs)
    (eg : ∀ args w, (callFunc f args).run Try.prog w = .ok (.enter f args) w)
    (hp : ∀ W, Below w.heap.size w W → ∀ x, x ∈ xs → Calls Try.prog f (fst.push (.int .i64 x) ++ cap) W fun e W' => e = .returned (.bool (p x)) ∧ Below W.heap.size W W') :
    Calls Try.prog 88 #[.slice A n c, .func (.func f) fst cap] w fun e w' => e = .returned (.bool (xs.any p)) ∧ Below w.heap.size w w' := by
  have HC := Lib.hid (IndexFunc_any A n c xs f fst cap p w hr eg hp)
  clear hr hp eg
  go_enter Try.func88, Try.ntmps88
  go_wp2_with (go_at_call 125; refine HC.out.mono ?_; rintro e w1 ⟨r, rfl, h1, h2, hb⟩; have H1 := Lib.hid h1; have H2 := Lib.hid h2; clear h1 h2)
  go_ret
  refine ⟨ret_bool ?_, hb⟩
  by_cases hr : 0 ≤ r
  · rw [H2.out hr]; simpa using hr
  · rw [H1.out (by omega)]; simpa using hr

/-- A list of the call's own: type e's element, kind kd. -/
def OwnI (w : World) (base e : Nat) (kd : IntKind) (v : Value) (xs : List Int) : Prop := w.ownsRow base e 1 v xs.length (nums kd xs)

theorem Clone_any (A : Option Addr) (n c : Nat) (xs : List Int) (w : World) (hr : ReadsInt w .i64 A n xs) (hn : n ≤ 17592186044416) :
    Calls Try.prog 52 #[.slice A n c] w fun e w' => ∃ v, e = .returned v ∧ OwnI w' w.heap.size 3 .i64 v xs ∧ Below w.heap.size w w' := by
  have HR := Lib.hid hr
  have qT : ∀ (w : World) (a : Option Addr) (n c n' c' : Nat), (binOp .eql 27 (.slice a n c) (.slice none n' c')).run Try.prog w = .ok (.bool a.isNone) w := fun w a n c n' c' => Lib.run_eql_slice_nil w _ _ a n c n' c' Try.underlying27
  have hl := hr.1
  rcases A with _ | ad
  · have h0 : n = 0 := by
      rcases Nat.eq_zero_or_pos n with h | h
      · exact h
      · obtain ⟨ad, h, _⟩ := hr.2.2 h; cases h
    subst h0
    obtain rfl : xs = [] := List.eq_nil_of_length_eq_zero hl
    clear hr hl
    go_enter Try.func52, Try.ntmps52
    go_wp2
    go_ret
    exact ⟨_, rfl, own_nil _ _ _ _, Below.refl _ _⟩
  clear hr
  go_enter Try.func52, Try.ntmps52
  go_wp2_with (at_builtin; refine print_append_row (w0 := w) w.heap.size rfl (.tmp 5) (.tmp 6) 27 3 .i64 8 rfl Try.underlying27 info_int (by decide) _ [] xs (some ad) n c rfl rfl (own_lit w _ 3 .i64 [] (Nat.le_refl _) (by simp)) (HR.out.below (below_alloc (Below.refl _ _) _)) (below_alloc (Below.refl _ _) _) (by simp) (by simp; omega) ?_; rintro v1 w1 hown hb hg hat)
  go_ret
  exact ⟨_, rfl, by unfold OwnI; simpa using hown, hb⟩
end Go.Proofs.Ytdpgojcljlfnbaa
