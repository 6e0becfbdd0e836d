/- The contract of subframe.Rest; lists shorter than a million, numbers from -2^40 to 2^40. -/
import Derived.Test.YtdpgojcljlfnbaaSub
set_option linter.unusedVariables false
set_option linter.unusedSimpArgs false
set_option maxRecDepth 100000
namespace Go.Proofs.Ytdpgojcljlfnbaa
open Go.RowKit
open Go.Proofs.YtdpgojcljlfnbaaW.PrintWords

/-- What subframe.Rest tells. -/
def restI (xs : List Int) (s : SubV) : List Int × Int :=
  if s.kind = 0 ∨ s.kind = 1 then ([], 0)
  else if s.kind = 2 then (if (residI (downI xs s.wasted) s.order).2 = 0 ∧ (residI (downI xs s.wasted) s.order).1.any wideB = true then ([], 14) else residI (downI xs s.wasted) s.order)
  else if s.kind = 3 then (if (lresI s.fs s.shift s.prec (downI xs s.wasted)).2 = 0 ∧ (lresI s.fs s.shift s.prec (downI xs s.wasted)).1.any wideB = true then ([], 14) else lresI s.fs s.shift s.prec (downI xs s.wasted))
  else ([], 1)

theorem wide_contains (A : Option Addr) (n c : Nat) (xs : List Int) (w : World) (hr : ReadsInt w .i64 A n xs) :
    Calls Try.prog 88 #[.slice A n c, .func (.func 89) #[] #[]] w fun e w' => e = .returned (.bool (xs.any wideB)) ∧ Below w.heap.size w w' :=
  ContainsFunc_any A n c xs 89 #[] #[] wideB w hr (fun _ _ => by kernel_rfl) (fun W _ x _ => (wide_any x W).mono fun e w' ⟨he, hw⟩ => ⟨he, hw ▸ Below.refl _ _⟩)

theorem down_bd (xs : List Int) (b : Int) (h : ∀ x ∈ xs, -1099511627776 ≤ x ∧ x ≤ 1099511627776) : ∀ x ∈ downI xs b, -1099511627776 ≤ x ∧ x ≤ 1099511627776 := by
  intro y hy
  simp only [downI, List.mem_map] at hy
  obtain ⟨x, hx, rfl⟩ := hy
  have h1 := h x hx
  have hp := p2_pos (downBy b)
  constructor
  · apply Int.le_ediv_of_mul_le hp
    have : -1099511627776 * p2 (downBy b) ≤ -1099511627776 * 1 := Int.mul_le_mul_of_nonpos_left (by omega) (by omega)
    omega
  · rcases Int.le_total 0 x with h0 | h0
    · have := Int.ediv_le_self (p2 (downBy b)) h0; omega
    · have : x / p2 (downBy b) ≤ 0 := Int.ediv_le_of_le_mul hp (by omega)
      omega

set_option maxHeartbeats 1000000 in
theorem Rest_any (A : Option Addr) (n c : Nat) (xs : List Int) (s : SubV) (w : World) (hr : ReadsInt w .i64 A n xs) (hs : SubR w s) (hn : n ≤ 1000000) (hx : ∀ x ∈ xs, -1099511627776 ≤ x ∧ x ≤ 1099511627776) :
    Calls Try.prog 50 #[.slice A n c, subVal s] w fun e w' => ∃ v, e = .returned (.tuple #[v, .int .i64 (restI xs s).2]) ∧ OwnI w' w.heap.size 3 .i64 v (restI xs s).1 ∧ Below w.heap.size w w' := by
  have HR := Lib.hid hr
  have HS := Lib.hid hs
  have HX := Lib.hid (down_bd xs s.wasted hx)
  have hl := hr.1
  clear hr hs hx
  subst hl
  have hdl : (downI xs s.wasted).length = xs.length := by simp [downI]
  obtain ⟨ys, hys⟩ : ∃ ys, downI xs s.wasted = ys := ⟨_, rfl⟩
  rw [hys] at HX hdl
  have HYS := Lib.hid hys
  have HDL := Lib.hid hdl
  clear hys hdl
  obtain ⟨W0, hW0⟩ : ∃ W0, w.alloc (Obj.cells (subCells s) 32) = W0 := ⟨_, rfl⟩
  have h00 : W0.cell? ⟨w.heap.size, 0, none⟩ = some (.int .i64 s.kind) := by rw [← hW0]; simp [go_sem]
  have h01 : W0.cell? ⟨w.heap.size, 1, none⟩ = some (.int .i64 s.wasted) := by rw [← hW0]; simp [go_sem]
  have h02 : W0.cell? ⟨w.heap.size, 2, none⟩ = some (.int .i64 s.order) := by rw [← hW0]; simp [go_sem]
  have h03 : W0.cell? ⟨w.heap.size, 3, none⟩ = some (.int .i64 s.shift) := by rw [← hW0]; simp [go_sem]
  have h04 : W0.cell? ⟨w.heap.size, 4, none⟩ = some (.int .i64 s.prec) := by rw [← hW0]; simp [go_sem]
  have h05 : W0.cell? ⟨w.heap.size, 5, none⟩ = some (.slice s.FA s.fs.length s.fc) := by rw [← hW0]; simp [go_sem]
  have hb0 : Below w.heap.size w W0 := by rw [← hW0]; exact ba _ _
  by_cases k0 : s.kind = 0
  · have HV : Hid (restI xs s = ([], 0)) := Lib.hid (by unfold restI; rw [if_pos (.inl k0)])
    go_enter Try.func50, Try.ntmps50
    go_wp2_with fail
    refine (down_any A xs.length c xs s.wasted W0 (HR.out.below hb0) hn).mono ?_
    rintro e w1 ⟨v, rfl, hown, hb⟩
    clear hown
    have w00 : w1.cell? ⟨w.heap.size, 0, none⟩ = some (.int .i64 s.kind) := pw_cell_below hb h00
    have HNR : Hid (ReadsInt w1 .i64 none 0 []) := Lib.hid ⟨rfl, by omega, fun h => absurd h (by omega)⟩
    go_wp2_with (go_at_call 88; refine (wide_contains _ _ _ [] _ HNR.out).mono ?_; rintro e w3 ⟨rfl, hb3⟩; simp only [List.any_nil])
    go_ret2
    exact ⟨_, by rw [HV.out]; rfl, by rw [HV.out]; exact own_nil _ _ _ _, bt hb0 (bt hb hb3)⟩
  by_cases k1 : s.kind = 1
  · have HV : Hid (restI xs s = ([], 0)) := Lib.hid (by unfold restI; rw [if_pos (.inr k1)])
    have k0b : (s.kind == 0) = false := by rw [beq_eq_false_iff_ne]; exact k0
    clear k0
    go_enter Try.func50, Try.ntmps50
    go_wp2_with fail
    refine (down_any A xs.length c xs s.wasted W0 (HR.out.below hb0) hn).mono ?_
    rintro e w1 ⟨v, rfl, hown, hb⟩
    clear hown
    have w00 : w1.cell? ⟨w.heap.size, 0, none⟩ = some (.int .i64 s.kind) := pw_cell_below hb h00
    have HNR : Hid (ReadsInt w1 .i64 none 0 []) := Lib.hid ⟨rfl, by omega, fun h => absurd h (by omega)⟩
    go_wp2_with (go_at_call 88; refine (wide_contains _ _ _ [] _ HNR.out).mono ?_; rintro e w3 ⟨rfl, hb3⟩; simp only [List.any_nil])
    go_ret2
    exact ⟨_, by rw [HV.out]; rfl, by rw [HV.out]; exact own_nil _ _ _ _, bt hb0 (bt hb hb3)⟩
  by_cases k2 : s.kind = 2
  · obtain ⟨R, hR⟩ : ∃ R, residI ys s.order = R := ⟨_, rfl⟩
    have HRR := Lib.hid hR
    have HV : Hid (restI xs s = if R.2 = 0 ∧ R.1.any wideB = true then ([], 14) else R) := Lib.hid (by unfold restI; rw [if_neg (by omega), if_pos k2, HYS.out, hR])
    clear hR
    obtain ⟨lst, er⟩ := R
    dsimp only at HV
    go_enter Try.func50, Try.ntmps50
    go_wp2_with fail
    refine (down_any A xs.length c xs s.wasted W0 (HR.out.below hb0) hn).mono ?_
    rintro e w1 ⟨v, rfl, hown, hb⟩
    rw [HYS.out] at hown
    obtain ⟨A1, c1, rfl, hrc⟩ := own_reads hown
    rw [HDL.out] at hrc ⊢
    have HRC := Lib.hid hrc
    clear hrc hown
    have w00 : w1.cell? ⟨w.heap.size, 0, none⟩ = some (.int .i64 s.kind) := pw_cell_below hb h00
    have w02 : w1.cell? ⟨w.heap.size, 2, none⟩ = some (.int .i64 s.order) := pw_cell_below hb h02
    go_wp2_with fail
    refine (Residual_any A1 xs.length c1 ys s.order w1 HRC.out hn HX.out).mono ?_
    rintro e w2 ⟨v2, rfl, hown2, hb2⟩
    rw [HRR.out] at hown2 ⊢
    dsimp only at hown2 ⊢
    have HO2 := Lib.hid hown2
    obtain ⟨A2, c2, rfl, hrc2⟩ := own_reads hown2
    have HRC2 := Lib.hid hrc2
    clear hrc2 hown2
    have hbt : Below w.heap.size w w2 := bt hb0 (bt hb hb2)
    by_cases he : er = 0
    · subst he
      cases hany : lst.any wideB
      · have HV2 : Hid (restI xs s = (lst, 0)) := Lib.hid (by rw [HV.out, hany]; simp)
        have HANY := Lib.hid hany
        clear hany
        go_wp2_with (go_at_call 88; refine (wide_contains _ _ _ lst _ HRC2.out).mono ?_; rintro e w3 ⟨rfl, hb3⟩; rw [HANY.out])
        go_ret2
        exact ⟨_, by rw [HV2.out]; rfl, by rw [HV2.out]; exact own_weaken (pw_own_below HO2.out hb3) (Nat.le_trans hb0.size hb.size), bt hbt hb3⟩
      · have HV2 : Hid (restI xs s = ([], 14)) := Lib.hid (by rw [HV.out, hany]; simp)
        have HANY := Lib.hid hany
        clear hany
        go_wp2_with (go_at_call 88; refine (wide_contains _ _ _ lst _ HRC2.out).mono ?_; rintro e w3 ⟨rfl, hb3⟩; rw [HANY.out])
        go_ret2
        exact ⟨_, by rw [HV2.out]; rfl, by rw [HV2.out]; exact own_nil _ _ _ _, bt hbt hb3⟩
    · have HV2 : Hid (restI xs s = (lst, er)) := Lib.hid (by rw [HV.out, if_neg (by simp [he])])
      have heb : (er == 0) = false := by rw [beq_eq_false_iff_ne]; exact he
      clear he
      go_wp2
      go_ret2
      exact ⟨_, by rw [HV2.out]; rfl, by rw [HV2.out]; exact own_weaken HO2.out (Nat.le_trans hb0.size hb.size), hbt⟩
  by_cases k3 : s.kind = 3
  · obtain ⟨R, hR⟩ : ∃ R, lresI s.fs s.shift s.prec ys = R := ⟨_, rfl⟩
    have HRR := Lib.hid hR
    have HV : Hid (restI xs s = if R.2 = 0 ∧ R.1.any wideB = true then ([], 14) else R) := Lib.hid (by unfold restI; rw [if_neg (by omega), if_neg k2, if_pos k3, HYS.out, hR])
    clear hR k0 k1 k2
    obtain ⟨lst, er⟩ := R
    dsimp only at HV
    go_enter Try.func50, Try.ntmps50
    go_wp2_with fail
    refine (down_any A xs.length c xs s.wasted W0 (HR.out.below hb0) hn).mono ?_
    rintro e w1 ⟨v, rfl, hown, hb⟩
    rw [HYS.out] at hown
    obtain ⟨A1, c1, rfl, hrc⟩ := own_reads hown
    have hcap := own_cap hown
    rw [HDL.out] at hrc hcap ⊢
    have HRC := Lib.hid hrc
    clear hrc hown
    have w00 : w1.cell? ⟨w.heap.size, 0, none⟩ = some (.int .i64 s.kind) := pw_cell_below hb h00
    have w03 : w1.cell? ⟨w.heap.size, 3, none⟩ = some (.int .i64 s.shift) := pw_cell_below hb h03
    have w04 : w1.cell? ⟨w.heap.size, 4, none⟩ = some (.int .i64 s.prec) := pw_cell_below hb h04
    have w05 : w1.cell? ⟨w.heap.size, 5, none⟩ = some (.slice s.FA s.fs.length s.fc) := pw_cell_below hb h05
    go_wp2_with fail
    refine (lpcResidual_any A1 xs.length c1 ys s.FA s.fc s.fs s.shift s.prec w1 HRC.out ((HS.out.f.below hb0).below hb) hcap hn HX.out).mono ?_
    rintro e w2 ⟨v2, rfl, hown2, hb2⟩
    rw [HRR.out] at hown2 ⊢
    dsimp only at hown2 ⊢
    have HO2 := Lib.hid hown2
    obtain ⟨A2, c2, rfl, hrc2⟩ := own_reads hown2
    have HRC2 := Lib.hid hrc2
    clear hrc2 hown2
    have hbt : Below w.heap.size w w2 := bt hb0 (bt hb hb2)
    by_cases he : er = 0
    · subst he
      cases hany : lst.any wideB
      · have HV2 : Hid (restI xs s = (lst, 0)) := Lib.hid (by rw [HV.out, hany]; simp)
        have HANY := Lib.hid hany
        clear hany
        go_wp2_with (go_at_call 88; refine (wide_contains _ _ _ lst _ HRC2.out).mono ?_; rintro e w3 ⟨rfl, hb3⟩; rw [HANY.out])
        go_ret2
        exact ⟨_, by rw [HV2.out]; rfl, by rw [HV2.out]; exact own_weaken (pw_own_below HO2.out hb3) (Nat.le_trans hb0.size hb.size), bt hbt hb3⟩
      · have HV2 : Hid (restI xs s = ([], 14)) := Lib.hid (by rw [HV.out, hany]; simp)
        have HANY := Lib.hid hany
        clear hany
        go_wp2_with (go_at_call 88; refine (wide_contains _ _ _ lst _ HRC2.out).mono ?_; rintro e w3 ⟨rfl, hb3⟩; rw [HANY.out])
        go_ret2
        exact ⟨_, by rw [HV2.out]; rfl, by rw [HV2.out]; exact own_nil _ _ _ _, bt hbt hb3⟩
    · have HV2 : Hid (restI xs s = (lst, er)) := Lib.hid (by rw [HV.out, if_neg (by simp [he])])
      have heb : (er == 0) = false := by rw [beq_eq_false_iff_ne]; exact he
      clear he
      go_wp2
      go_ret2
      exact ⟨_, by rw [HV2.out]; rfl, by rw [HV2.out]; exact own_weaken HO2.out (Nat.le_trans hb0.size hb.size), hbt⟩
  · have HV : Hid (restI xs s = ([], 1)) := Lib.hid (by unfold restI; rw [if_neg (by omega), if_neg k2, if_neg k3])
    have k0b : (s.kind == 0) = false := by rw [beq_eq_false_iff_ne]; exact k0
    have k1b : (s.kind == 1) = false := by rw [beq_eq_false_iff_ne]; exact k1
    have k2b : (s.kind == 2) = false := by rw [beq_eq_false_iff_ne]; exact k2
    have k3b : (s.kind == 3) = false := by rw [beq_eq_false_iff_ne]; exact k3
    clear k0 k1 k2 k3
    go_enter Try.func50, Try.ntmps50
    go_wp2_with fail
    refine (down_any A xs.length c xs s.wasted W0 (HR.out.below hb0) hn).mono ?_
    rintro e w1 ⟨v, rfl, hown, hb⟩
    clear hown
    have w00 : w1.cell? ⟨w.heap.size, 0, none⟩ = some (.int .i64 s.kind) := pw_cell_below hb h00
    go_wp2
    go_ret2
    exact ⟨_, by rw [HV.out]; rfl, by rw [HV.out]; exact own_nil _ _ _ _, bt hb0 hb⟩
end Go.Proofs.Ytdpgojcljlfnbaa
