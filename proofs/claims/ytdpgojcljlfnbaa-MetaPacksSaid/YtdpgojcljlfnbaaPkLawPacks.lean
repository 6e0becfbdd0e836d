/- The row of the law MetaPacks: for every input the law returns true; no condition. -/
import Derived.Test.YtdpgojcljlfnbaaPkUnRef
import Derived.Test.YtdpgojcljlfnbaaPkRowMetas
set_option linter.unusedVariables false
set_option linter.unusedSimpArgs false
namespace Go.Proofs.Ytdpgojcljlfnbaa.metaPacks
open Go.ChangeShapes Go.WideShapes Go.ChangeAt Go.RowKit
open Go.Proofs.Ytdpgojcljlfnbaa Go.Proofs.YtdpgojcljlfnbaaW.PrintWords
theorem own : ownKnob Try.prog.godebug = none := by kernel_rfl
set_option maxRecDepth 100000 in
theorem lifted (os : Os) (started : os.Started) (H : Type) (enc : TypeId × Value → H) :
    ReturnsInHanded {} Try.checked os 9 .any (Rows.metaPacksSpec.pre6 enc Try.prog Try.f9 Rows.metaPacksRow.domain false) (Rows.metaPacksSpec.post enc Try.prog Try.f9 false true false false) := by
  refine returnsInHanded_of_change_sized (C := Try.checked) own started (by kernel_rfl) Try.func9
    (ChangeSpec.witness6 (enc := enc) (C := Try.checked) false ⟨#[], #[.slice none 0 0, .slice none 0 0], []⟩ 8 (by kernel_rfl) (by kernel_rfl) (by kernel_rfl) (by kernel_rfl)) ?_
  intro W base args ds gs before hval0 hW hcnd hsz0 _
  have hval : ∀ (j : Nat) t v, Try.f9.params[j]? = some t → args[j]? = some v → Value.okWide Try.prog W .any base t v := hval0
  have hW' := hW
  obtain ⟨p, q, hA0, hV, rfl, hfz, hnd⟩ := hW
  have hA : DataW.TrodAll enc Try.prog W 0 (fun _ => true) true Try.f9.params.toList args.toList ds p := hA0
  rw [Try.params9] at hA hval
  obtain ⟨v0, vs0, d0, ds0, p0, q0, hargs, rfl, rfl, h0, r0⟩ := trodAll_cons hA
  obtain ⟨v1, vs1, d1, ds1, p1, q1, rfl, rfl, rfl, h1, r1⟩ := trodAll_cons r0
  obtain ⟨rfl, rfl, rfl⟩ := trodAll_nil r1
  obtain rfl : args = #[v0, v1] := by cases args; simp_all
  obtain ⟨rfl, rfl⟩ := trodVars_none hV
  have k0 := h0; have k1 := h1
  have lt0 := row_lt k0
  have lt1 := row_lt k1
  obtain ⟨fuel, hf⟩ := h0
  obtain ⟨fuel1, hf1⟩ := h1
  have hv0 : v0.cells.toList = [v0] := by
    obtain ⟨a, l2, c2, e2⟩ := okWide_slice Try.underlying80 (hval 0 80 v0 rfl rfl)
    rw [e2]; rfl
  have hv1 : v1.cells.toList = [v1] := by
    obtain ⟨a, l2, c2, e2⟩ := okWide_slice Try.underlying37 (hval 1 37 v1 rfl rfl)
    rw [e2]; rfl
  rw [hv0] at hf
  rw [hv1] at hf1
  obtain ⟨A, l, c, rfl, hr, hc, hm, _, _, _⟩ := row_metas hf
  obtain ⟨B, b, d, rfl, hrb, hd, hwb, _⟩ := row_bytes hf1
  have hby : BytesI b := by
    intro y hy
    have := hwb y hy
    simp [Lit.wf, IntKind.min, IntKind.max, IntKind.bits, IntKind.signed] at this
    omega
  clear hA0 hval0 hsz0
  refine (Packs_walk A B c d l b W hr hc (by simp only [maxLen] at hm; omega) hrb hd hby).mono fun e W' ⟨he, bel⟩ => ?_
  subst he
  exact ⟨_, rfl, _, _, _, [], _, [], hW', trodAll_mk1 (shut_bool Try.underlying4 _), (trodAll_cons_mk (Below.trod laidOut (by kernel_rfl) (of_decide_eq_true (by kernel_rfl)) k0 bel lt0) (trodAll_cons_mk (Below.trod laidOut (by kernel_rfl) (of_decide_eq_true (by kernel_rfl)) k1 bel lt1) trodAll_mk0)), rfl, bel.frame _, fun h => by cases h⟩
theorem over : Rows.metaPacksRow.holds Try.pinned (OpenSpec.ofChange Rows.metaPacksSpec) :=
  OpenClaim.holds_of_wide 9 Try.f9 rfl rfl rfl rfl rfl rfl rfl ⟨rfl, rfl, rfl, rfl, rfl⟩ rfl rfl rfl rfl rfl (by kernel_rfl) Try.func9 (by kernel_rfl)
    (of_decide_eq_true (by kernel_rfl)) (by unfold Func.isWrapper; first | (rw [if_pos (by decide +kernel)]; kernel_rfl) | (rw [if_neg (by decide +kernel)]; exact ⟨rfl, rfl⟩))
    (fun os started H enc _ => lifted os started H enc)
theorem proved : Rows.MetaPacksSaid := over
#print axioms proved
end Go.Proofs.Ytdpgojcljlfnbaa.metaPacks
