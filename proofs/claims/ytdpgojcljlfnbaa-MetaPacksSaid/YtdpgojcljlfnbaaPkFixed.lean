/- Contracts of fixed.Residual and subframe.down; of the numbers: from -2^40 to 2^40 for the first. -/
import Derived.Test.YtdpgojcljlfnbaaPkParts
import Derived.WalkMore
import Derived.IntWalk
set_option linter.unusedVariables false
set_option linter.unusedSimpArgs false
set_option maxRecDepth 100000
namespace Go.Proofs.Ytdpgojcljlfnbaa
open Go.RowKit
open Go.Proofs.YtdpgojcljlfnbaaW.PrintWords

theorem jump_mono {l : Nat} {J J' : Act → World → Prop} {Q : Exit → Act → World → Prop} (h : ∀ a w, J a w → J' a w) : ∀ e a w, Exit.jump l J Q e a w → Exit.jump l J' Q e a w := by
  intro e a w hq
  cases e with
  | goto l' => exact ⟨hq.1, h _ _ hq.2⟩
  | normal => exact hq
  | exit id => exact hq
  | ret => exact hq
  | panic ch => exact hq
  | outgrown => exact hq
/-- A scope with one label: what holds at each jump bears a number that each pass lowers. -/
theorem wp_scope_goto {P : Program} {a : Act} {w : World} {Q : Exit → Act → World → Prop} {c rest : Code} (l : Nat) (J : Nat → Act → World → Prop) (hf : findLabel c l = some (Code.seq Code.skip rest))
    (pass : ∀ n a w, J n a w → ∀ H : Act → World → Prop, (∀ n' a' w', n' < n → J n' a' w' → H a' w') → rest.wp P (Exit.jump l H Q) a w)
    (first : ∀ H : Act → World → Prop, (∀ n a w, J n a w → rest.wp P (Exit.jump l H Q) a w) → c.wp P (Exit.jump l H Q) a w) : (Code.scope c).wp P Q a w := by
  have pass' : ∀ n a w, J n a w → rest.wp P (Exit.jump l (fun a' w' => ∃ n', n' < n ∧ J n' a' w') Q) a w := fun n a w h => pass n a w h _ (fun n' a' w' h1 h2 => ⟨n', h1, h2⟩)
  refine wp_scope_jumps l (fun a w => ∃ n, J n a w) (fun a w => leastOf (fun n => J n a w)) hf ?_ ?_
  · refine first _ fun n a w h => Code.wp_mono (jump_mono ?_) (pass' n a w h)
    rintro a' w' ⟨n', _, hJ⟩
    exact ⟨n', hJ⟩
  · intro a w hI
    refine wp_seq (wp_skip ?_)
    refine Code.wp_mono (jump_mono ?_) (pass' _ a w (leastOf_spec hI).1)
    rintro a' w' ⟨n', hlt, hJ⟩
    exact ⟨⟨n', hJ⟩, Nat.lt_of_le_of_lt ((leastOf_spec ⟨n', hJ⟩).2 n' hJ) hlt⟩

theorem frame_eq (t : Array Value) (n : Nat) (h : t.size = n) : t = ((List.range n).map fun i => t.getD i undef).toArray := by
  subst h
  apply Array.ext
  · simp
  · intro i h1 h2; simp [Array.getD, h1]

theorem over_set (xs ys : List Int) (j : Nat) (y : Int) (hx : j < xs.length) (hy : ys[j]? = some y) : (ys.take j ++ xs.drop j).set j y = ys.take (j + 1) ++ xs.drop (j + 1) := by
  have hj : j < ys.length := by
    rcases Nat.lt_or_ge j ys.length with h | h
    · exact h
    · rw [List.getElem?_eq_none h] at hy; cases hy
  have hl : (ys.take j).length = j := by rw [List.length_take]; omega
  rw [List.set_append_right _ _ (by omega), hl, Nat.sub_self, List.drop_eq_getElem_cons hx, List.set_cons_zero, List.take_add_one, hy]
  simp
theorem over_get (xs ys : List Int) (j i : Nat) (hj : j ≤ ys.length) (hi : j ≤ i) : (ys.take j ++ xs.drop j).getD i 0 = xs.getD i 0 := by
  have hl : (ys.take j).length = j := by rw [List.length_take]; omega
  simp only [List.getD_eq_getElem?_getD]
  rw [List.getElem?_append_right (by omega), hl, List.getElem?_drop, show j + (i - j) = i from by omega]
theorem over_len (xs ys : List Int) (j : Nat) (hj : j ≤ ys.length) (hx : j ≤ xs.length) : (ys.take j ++ xs.drop j).length = xs.length := by
  simp; omega

/-- A number that went down. -/
def downBy (by_ : Int) : Nat := (max 0 (min by_ 32)).toNat
def downI (xs : List Int) (by_ : Int) : List Int := xs.map fun x => x / p2 (downBy by_)
theorem own_step {W : World} {base g n cap k : Nat} {e : TypeId} {xs ys : List Int} (h : W.ownsRow base e 1 (.slice (some ⟨g, 0, none⟩) n cap) n (nums .i64 (ys.take k ++ xs.drop k))) (hn : xs.length = n) (hy : ys.length ≤ n) (hk : k < ys.length) :
    W.cell? ⟨g, k, none⟩ = some (.int .i64 (xs.getD k 0)) ∧ W.frozen? ⟨g, k, none⟩ = false ∧ (∀ i, k ≤ i → i < n → W.cell? ⟨g, i, none⟩ = some (.int .i64 (xs.getD i 0))) ∧
    (W.setCell ⟨g, k, none⟩ (.int .i64 (ys.getD k 0))).ownsRow base e 1 (.slice (some ⟨g, 0, none⟩) n cap) n (nums .i64 (ys.take (k + 1) ++ xs.drop (k + 1))) := by
  have hget : ∀ i, k ≤ i → i < n → W.cell? ⟨g, i, none⟩ = some (.int .i64 (xs.getD i 0)) := by
    intro i hi hin
    have := (own_at h (i : Int) (by omega) (by omega)).1
    rw [Int.toNat_natCast] at this
    rw [this]; unfold rd
    rw [Int.toNat_natCast, over_get xs ys k i (by omega) hi]
  refine ⟨hget k (Nat.le_refl _) (by omega), ?_, hget, ?_⟩
  · have := (own_at h (k : Int) (by omega) (by omega)).2
    rwa [Int.toNat_natCast] at this
  · have hst := (own_store h (k : Int) (ys.getD k 0)).1
    rw [Int.toNat_natCast] at hst
    rwa [over_set xs ys k _ (by omega) (by simp [List.getD_eq_getElem?_getD, List.getElem?_eq_getElem hk])] at hst

theorem down_any (A : Option Addr) (n c : Nat) (xs : List Int) (by_ : Int) (w : World) (hr : ReadsInt w .i64 A n xs) (hn : n ≤ 1000000) :
    Calls Try.prog 76 #[.slice A n c, .int .i64 by_] w fun e w' => ∃ v, e = .returned v ∧ OwnI w' w.heap.size 3 .i64 v (downI xs by_) ∧ Below w.heap.size w w' := by
  have HR := Lib.hid hr
  have hl := hr.1
  clear hr
  subst hl
  obtain ⟨q, hq⟩ : ∃ q, max 0 (min by_ 32) = q := ⟨_, rfl⟩
  have hq0 : 0 ≤ q ∧ q ≤ 32 := by omega
  have HQ := Lib.hid hq
  clear hq
  obtain ⟨hq0, hq1⟩ := hq0
  have hqq : (if 0 < (if 32 < by_ then 32 else by_) then (if 32 < by_ then 32 else by_) else 0) = q := by have := HQ.out; split <;> split at * <;> omega
  go_enter Try.func76, Try.ntmps76
  go_wp2_with (go_at_call 52; refine (Clone_any _ _ _ xs _ HR.out (by omega)).mono ?_; rintro e w1 ⟨v, rfl, hown, hb⟩; have HO := Lib.hid hown; obtain ⟨A1, c1, rfl, hrc⟩ := own_reads hown; clear hrc hown)
  go_loopw [11] (fun i wr => ∃ j : Nat, j ≤ xs.length ∧ i = .int .i64 j ∧ Hid (wr.ownsRow w.heap.size 3 1 (.slice A1 xs.length c1) xs.length (nums .i64 ((downI xs by_).take j ++ xs.drop j))) ∧ Below w.heap.size w wr) (fun i _ => xs.length - (intOf i).toNat)
  case atStart => exact ⟨0, Nat.zero_le _, rfl, Lib.hid (by have := HO.out; unfold OwnI at this; simpa using this), hb⟩
  case round =>
    obtain ⟨j, hj, rfl, hown, hbr⟩ := hrel
    by_cases hlt : j < xs.length
    · obtain ⟨g, cap, hv, hgb, hgl⟩ := hown.out.form (by omega)
      injection hv with hv1 _ hv2
      subst hv1; subst hv2
      obtain ⟨hcell, hfz, hunused, hst⟩ := own_step hown.out rfl (by simp [downI]) (by simpa [downI] using hlt)
      clear hunused
      obtain ⟨x, hx⟩ : ∃ x, xs.getD j 0 = x := ⟨_, rfl⟩
      have hy : (downI xs by_).getD j 0 = x / 2 ^ q.toNat := by
        simp only [downI, List.getD_eq_getElem?_getD, List.getElem?_map] at hx ⊢
        rw [List.getElem?_eq_getElem hlt] at hx ⊢
        simp only [Option.map_some, Option.getD_some] at hx ⊢
        rw [hx, p2_eq, downBy, HQ.out]
      rw [hx] at hcell
      rw [hy] at hst
      have HST := Lib.hid hst
      clear hst hx hy
      go_wp2
      go_roundw
      case rel => exact ⟨j + 1, by omega, by go_num, HST, hbr.setCell hgb _⟩
      case measure => simp [intOf]; omega
    · obtain rfl : j = xs.length := by omega
      go_wp2
      go_ret
      refine ⟨_, rfl, ?_, hbr⟩
      have h := hown.out
      unfold OwnI
      have e : (downI xs by_).length = xs.length := by simp [downI]
      rw [e]
      rw [List.take_of_length_le (by rw [e]; exact Nat.le_refl _), List.drop_length, List.append_nil] at h
      exact h

/-- Differences of numbers that stand side by side. -/
def diff1 : List Int → List Int
  | [] => []
  | [_] => []
  | a :: b :: xs => (b - a) :: diff1 (b :: xs)
def diffs : Nat → List Int → List Int
  | 0, xs => xs
  | k + 1, xs => diffs k (diff1 xs)
theorem diff1_length (xs : List Int) : (diff1 xs).length = xs.length - 1 := by
  induction xs with
  | nil => rfl
  | cons a xs ih =>
    cases xs with
    | nil => rfl
    | cons b xs => simp only [diff1, List.length_cons] at *; omega
theorem diff1_get (xs : List Int) (j : Nat) (h : j + 1 < xs.length) : (diff1 xs).getD j 0 = xs.getD (j + 1) 0 - xs.getD j 0 := by
  induction xs generalizing j with
  | nil => simp at h
  | cons a xs ih =>
    cases xs with
    | nil => simp at h
    | cons b xs =>
      cases j with
      | zero => simp [diff1]
      | succ j => 
        have := ih j (by simpa using h)
        simpa [diff1] using this
theorem diff1_bd (xs : List Int) (B : Int) (h : ∀ x ∈ xs, -B ≤ x ∧ x ≤ B) : ∀ x ∈ diff1 xs, -(2 * B) ≤ x ∧ x ≤ 2 * B := by
  induction xs with
  | nil => simp [diff1]
  | cons a xs ih =>
    cases xs with
    | nil => simp [diff1]
    | cons b xs =>
      intro x hx
      simp only [diff1, List.mem_cons] at hx
      rcases hx with rfl | hx
      · have := h a (by simp); have := h b (by simp); omega
      · exact ih (fun y hy => h y (by simp only [List.mem_cons] at hy ⊢; exact .inr hy)) x (by simpa using hx)
theorem diffs_length (k : Nat) (xs : List Int) : (diffs k xs).length = xs.length - k := by
  induction k generalizing xs with
  | zero => rfl
  | succ k ih => simp only [diffs, ih, diff1_length]; omega
/-- What fixed.Residual tells. -/
def residI (xs : List Int) (o : Int) : List Int × Int := if o < 0 ∨ 4 < o then ([], 1) else if (xs.length : Int) < o then ([], 2) else (diffs o.toNat xs, 0)

theorem own_cut {w : World} {base g n cap m : Nat} {e : TypeId} {xs : List Int} {k : IntKind} (h : w.ownsRow base e 1 (.slice (some ⟨g, 0, none⟩) n cap) n (nums k xs)) (hm : m ≤ n) : w.ownsRow base e 1 (.slice (some ⟨g, 0, none⟩) m cap) m (nums k (xs.take m)) := by
  obtain ⟨h1, h2⟩ := h
  have hl : xs.length = n := by simpa [nums] using h1
  rcases h2 with ⟨h2, _⟩ | ⟨g', cap', cur, hv, hb, hh, h3, h4, h5, h6⟩
  · cases h2
  · injection hv with hv1 _ hv2
    injection hv1 with hv1
    injection hv1 with hv1
    subst hv1; subst hv2
    refine ⟨by simp [nums]; omega, .inr ⟨g, cap, cur, rfl, hb, hh, by omega, h4, h5, ?_⟩⟩
    have : (cur.toList.take (n * 1)).take m = (nums k xs).take m := by rw [h6]
    rw [List.take_take] at this
    rw [Nat.mul_one, show m = min m (n * 1) from by omega, this, ← show m = min m (n * 1) from by omega]
    simp [nums, List.map_take]

theorem own_cap {w : World} {base n cap : Nat} {e : TypeId} {A : Option Addr} {xs : List Value} {size m : Nat} (h : w.ownsRow base e size (.slice A n cap) m xs) : n ≤ cap := by
  rcases h.2 with ⟨h, _⟩ | ⟨g', cap', cur, hv, hb, hh, h3, _⟩
  · injection h with _ h1 h2; omega
  · injection hv with _ h1 h2; omega

theorem fl52 {a : Act} {x1 x6 : Value} (hs : a.tmps.size = 52) (hd : a.defers = []) (h1 : a.tmps.getD 1 undef = x1) (h6 : a.tmps.getD 6 undef = x6) : ∃ u : Nat → Value, a = { tmps := #[u 0, x1, u 2, u 3, u 4, u 5, x6, u 7, u 8, u 9, u 10, u 11, u 12, u 13, u 14, u 15, u 16, u 17, u 18, u 19, u 20, u 21, u 22, u 23, u 24, u 25, u 26, u 27, u 28, u 29, u 30, u 31, u 32, u 33, u 34, u 35, u 36, u 37, u 38, u 39, u 40, u 41, u 42, u 43, u 44, u 45, u 46, u 47, u 48, u 49, u 50, u 51], defers := [] } := by
  subst h1
  subst h6
  refine ⟨fun i => a.tmps.getD i undef, ?_⟩
  obtain ⟨t, d⟩ := a
  cases hd
  exact congrArg (fun t => ({ tmps := t, defers := [] } : Act)) (frame_eq t 52 hs)

set_option maxHeartbeats 1000000 in
theorem Residual_any (A : Option Addr) (n c : Nat) (xs : List Int) (o : Int) (w : World) (hr : ReadsInt w .i64 A n xs) (hn : n ≤ 1000000) (hx : ∀ x ∈ xs, -1099511627776 ≤ x ∧ x ≤ 1099511627776) :
    Calls Try.prog 86 #[.slice A n c, .int .i64 o] w fun e w' => ∃ v, e = .returned (.tuple #[v, .int .i64 (residI xs o).2]) ∧ OwnI w' w.heap.size 3 .i64 v (residI xs o).1 ∧ Below w.heap.size w w' := by
  have HR := Lib.hid hr
  have hl := hr.1
  have HX := Lib.hid hx
  clear hr hx
  subst hl
  by_cases c1 : o < 0 ∨ 4 < o
  · have HV : Hid (residI xs o = ([], 1)) := Lib.hid (by unfold residI; rw [if_pos c1])
    go_enter Try.func86, Try.ntmps86
    go_wp2
    go_step3
    go_wp2
    all_goals
      try rw [Exit.noGoto_ret]
      go_ret2
      exact ⟨_, by rw [HV.out]; rfl, by rw [HV.out]; exact own_nil _ _ _ _, Below.refl _ _⟩
  by_cases c2 : (xs.length : Int) < o
  · have HV : Hid (residI xs o = ([], 2)) := Lib.hid (by unfold residI; rw [if_neg c1, if_pos c2])
    have c3 : ¬ o < 0 := by omega
    go_enter Try.func86, Try.ntmps86
    go_wp2
    go_step3
    go_wp2
    all_goals
      try rw [Exit.noGoto_ret]
      go_ret2
      exact ⟨_, by rw [HV.out]; rfl, by rw [HV.out]; exact own_nil _ _ _ _, Below.refl _ _⟩
  have HV : Hid (residI xs o = (diffs o.toNat xs, 0)) := Lib.hid (by unfold residI; rw [if_neg c1, if_neg c2])
  obtain ⟨k0, rfl⟩ : ∃ k0 : Nat, o = (k0 : Int) := ⟨o.toNat, by omega⟩
  have hk0 : k0 ≤ 4 := by omega
  have hk1 : k0 ≤ xs.length := by omega
  have c0 : decide ((k0 : Int) < 0) = false := decide_eq_false (by omega)
  have c3 : ¬ (4 : Int) < k0 := by omega
  clear c1
  go_enter Try.func86, Try.ntmps86
  go_wp2
  refine wp_scope_goto 0 (fun k a W => a.tmps.size = 52 ∧ a.defers = [] ∧ a.tmps.getD 1 undef = .int .i64 (k : Int) ∧ ∃ (A1 : Option Addr) (c1 m : Nat) (ys : List Int), a.tmps.getD 6 undef = .slice A1 m c1 ∧ ys.length = m ∧ k ≤ 4 ∧ diffs k ys = diffs k0 xs ∧ k ≤ m ∧ m ≤ 1000000 ∧ m ≤ c1 ∧ W.ownsRow w.heap.size 3 1 (.slice A1 m c1) m (nums .i64 ys) ∧ (∀ y ∈ ys, -(1099511627776 * p2 (4 - k)) ≤ y ∧ y ≤ 1099511627776 * p2 (4 - k)) ∧ Below w.heap.size w W) rfl ?pass ?first
  case first =>
    intro H hgo
    have HGO := Lib.hid hgo; clear hgo
    go_wp2_with (go_at_call 52; refine (Clone_any _ _ _ xs _ HR.out (by omega)).mono ?_; rintro e w1 ⟨v, rfl, hown, hb⟩; have HO := Lib.hid hown; obtain ⟨A1, c1, rfl, hrc⟩ := own_reads hown; clear hrc hown)
    go_step3
    go_step
    go_step
    have hcc := own_cap HO.out
    refine HGO.out k0 _ _ ⟨rfl, rfl, rfl, A1, c1, xs.length, xs, rfl, rfl, hk0, rfl, hk1, hn, hcc, HO.out, ?_, hb⟩
    intro y hy
    have h1 := HX.out y hy
    have h2 := p2_pos (4 - k0)
    have h3 : 1099511627776 ≤ 1099511627776 * p2 (4 - k0) := by omega
    omega
  case pass =>
    rintro k a W ⟨hs, hdf, ht1, A1, c1, m, ys, ht6, hlen, hk4, hd, hkm, hm, hmc, hown, hbd, hb⟩ H hH
    obtain ⟨u, ha⟩ := fl52 hs hdf ht1 ht6
    subst ha
    clear hs hdf ht1 ht6
    have HH := Lib.hid hH
    clear hH
    have HL := Lib.hid hlen; have HD := Lib.hid hd; have HO := Lib.hid hown; have HB := Lib.hid hbd
    clear hlen hd hown hbd
    cases k with
    | zero =>
      go_wp2
      simp only [Exit.jump]
      go_ret2
      have hys : ys = diffs k0 xs := HD.out
      refine ⟨_, by rw [HV.out]; rfl, ?_, hb⟩
      unfold OwnI
      rw [HV.out, Int.toNat_natCast, ← hys, HL.out]
      exact HO.out
    | succ k =>
      obtain ⟨q, rfl⟩ : ∃ q, m = q + 1 := ⟨m - 1, by omega⟩
      obtain ⟨g, cap, hv, hgb, hgl⟩ := HO.out.form (by omega)
      injection hv with hv1 hv3 hv2
      subst hv1; subst hv2
      clear hv3
      have HDL : Hid ((diff1 ys).length = q) := Lib.hid (by rw [diff1_length, HL.out]; rfl)
      have hto := run_cut_to Try.underlying27 info_int (some ⟨g, 0, none⟩) (q + 1) c1 q (by omega) hmc
      have hkc : ((k : Int) + 1 == 0) = false := by rw [beq_eq_false_iff_ne]; omega
      go_wp2
      go_loopw [28] (fun i wr => ∃ j : Nat, j ≤ q ∧ i = .int .i64 j ∧ Hid (wr.ownsRow w.heap.size 3 1 (.slice (some ⟨g, 0, none⟩) (q + 1) c1) (q + 1) (nums .i64 ((diff1 ys).take j ++ ys.drop j))) ∧ Below w.heap.size w wr ∧ Hid (g < wr.heap.size)) (fun i _ => q - (intOf i).toNat)
      case atStart => exact ⟨0, Nat.zero_le _, rfl, Lib.hid (by simpa using HO.out), hb, Lib.hid hgl⟩
      case round =>
        obtain ⟨j, hj, rfl, hown, hbr, hgl2⟩ := hrel
        by_cases hlt : j < q
        · obtain ⟨hcell, hfz, hget, hst⟩ := own_step hown.out HL.out (by rw [HDL.out]; omega) (by rw [HDL.out]; exact hlt)
          have hcell2 := hget (j + 1) (by omega) (by omega)
          have hdg := diff1_get ys j (by rw [HL.out]; omega)
          have hm1 := HB.out _ (getD_mem ys j (by rw [HL.out]; omega))
          have hm2 := HB.out _ (getD_mem ys (j + 1) (by rw [HL.out]; omega))
          clear hget
          obtain ⟨x, hx⟩ : ∃ x, ys.getD j 0 = x := ⟨_, rfl⟩
          obtain ⟨y, hy⟩ : ∃ y, ys.getD (j + 1) 0 = y := ⟨_, rfl⟩
          rw [hx] at hcell hdg hm1
          rw [hy] at hcell2 hdg hm2
          rw [hdg] at hst
          have hp : p2 (4 - (k + 1)) ≤ 16 := by
            have h1 : 4 - (k + 1) ≤ 4 := by omega
            have h2 : 2 ^ (4 - (k + 1)) ≤ 2 ^ 4 := Nat.pow_le_pow_right (by decide) h1
            unfold p2; omega
          have hx1 : -17592186044416 ≤ x ∧ x ≤ 17592186044416 := by omega
          have hy1 : -17592186044416 ≤ y ∧ y ≤ 17592186044416 := by omega
          have HST := Lib.hid hst
          clear hst hdg hm1 hm2 hx hy hp
          obtain ⟨hx1, hx2⟩ := hx1
          obtain ⟨hy1, hy2⟩ := hy1
          have hgl3 := hgl2.out
          have e1 : IntKind.i64.wrap ((j : Int) + 1) = (j : Int) + 1 := IntWalk.i64_in _ (by omega)
          have e2 : (0 : Int) ≤ (j : Int) + 1 := by omega
          have e3 : ((j : Int) + 1).toNat = j + 1 := by omega
          have e4 : IntKind.i64.wrap (y - x) = y - x := IntWalk.i64_in _ (by omega)
          have e5 : (j : Int) + 1 < (q : Int) + 1 := by omega
          have e6 : (j : Int) < (q : Int) + 1 := by omega
          have e7 : (0 : Int) ≤ (j : Int) := by omega
          go_wp2
          go_still_tail 13, (by kernel_rfl)
          clear e1 e2 e3 e4 e5 e6 e7
          go_wp2
          go_roundw
          case rel => exact ⟨j + 1, by omega, by go_num, Lib.hid (pw_own_below HST.out (bd1 _)), below_drew (hbr.setCell hgb _), Lib.hid (by simpa using hgl3)⟩
          case measure => simp [intOf]; omega
        · obtain rfl : j = q := by omega
          go_wp2
          go_step3
          refine ⟨rfl, HH.out k _ _ (by omega) ⟨rfl, rfl, rfl, _, _, _, diff1 ys, rfl, HDL.out, by omega, HD.out, by omega, by omega, by omega, ?_, ?_, hbr⟩⟩
          · have h := own_cut (m := j) hown.out (by omega)
            rw [List.take_append_of_le_length (by simp [HDL.out]), List.take_take, Nat.min_self, List.take_of_length_le (by rw [HDL.out]; exact Nat.le_refl _)] at h
            exact h
          · have h := diff1_bd ys _ HB.out
            have e : p2 (4 - k) = 2 * p2 (4 - (k + 1)) := by rw [← p2_succ, show 4 - (k + 1) + 1 = 4 - k from by omega]
            intro z hz
            have := h z hz
            rw [e]; omega
end Go.Proofs.Ytdpgojcljlfnbaa
