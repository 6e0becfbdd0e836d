/- Arguments of a row opened: lists of numbers, plans. -/
import Derived.Test.YtdpgojcljlfnbaaPkParts
import Derived.ProofKit
import Derived.OpenShut
import Derived.ShutString
import Derived.ChangeOld
import Derived.Below
import Derived.SizedLaws
import Derived.Deep.SlicePairs
set_option linter.unusedVariables false
set_option linter.unusedSimpArgs false
set_option maxRecDepth 100000
namespace Go.Proofs.Ytdpgojcljlfnbaa
open Go.RowKit Go.ChangeShapes Go.WideShapes Go.ChangeAt
open Go.Proofs.YtdpgojcljlfnbaaW.PrintWords

theorem laidOut : laidOutB Try.prog = true := by kernel_rfl
theorem row_lt {H : Type} {enc : TypeId × Value → H} {W : World} {t : TypeId} {v : Value} {d : DataW H} {ps : List MemPlace} (h : DataW.Trod enc Try.prog W 0 (fun _ => true) true t v d ps) : ∀ x ∈ ps, x.block < W.heap.size := by
  obtain ⟨m, hm⟩ := h
  exact DataW.trod_lt m _ _ _ hm

theorem row_ints {H : Type} {enc : TypeId × Value → H} {W : World} {t e : TypeId} {kd : IntKind} {v : Value} {d : DataW H} {ps : List MemPlace} (ht : Try.prog.underlying t = some (.slice e)) (he : Try.prog.underlying e = some (.int kd)) (hc : Try.prog.cellsOf e = 1)
    (hv : ∃ a l c, v = .slice a l c) (h : DataW.Trod enc Try.prog W 0 (fun _ => true) true t v d ps) :
    ∃ A n c xs, v = .slice A n c ∧ ReadsInt W kd A n xs ∧ n ≤ maxLen ∧ (∀ x ∈ xs, (Lit.int kd x).wf = true) ∧ n ≤ c := by
  obtain ⟨a, len, cap, rfl⟩ := hv
  obtain ⟨fuel, hf⟩ := h
  have hrow : ∃ zs : List Int, (a = none ∧ len = 0 ∧ cap = 0 ∧ zs = []) ∨ ∃ x, a = some x ∧ len ≤ cap ∧ cap ≤ maxLen ∧ zs.length = cap ∧ (∀ i, i < zs.length → W.cell? (x.add i) = some (.int kd (zs.getD i 0))) ∧ ∀ n ∈ zs, (Lit.int kd n).wf = true := by
    rcases open_ints ht he hc hf with ⟨hcs, _⟩ | ⟨x, l, c, zs, hcs, _, hl, hm, hz, _, hcell, hwz⟩
    · simp [Value.cells] at hcs
      obtain ⟨rfl, rfl, rfl⟩ := hcs
      exact ⟨[], .inl ⟨rfl, rfl, rfl, rfl⟩⟩
    · simp [Value.cells] at hcs
      obtain ⟨rfl, rfl, rfl⟩ := hcs
      exact ⟨zs, .inr ⟨_, rfl, hl, hm, by simpa using hz, hcell, hwz⟩⟩
  obtain ⟨zs, hrow⟩ := hrow
  obtain ⟨l, rfl, h1, h2, h3, h4⟩ := ReadsInt.ofRowC hrow
  exact ⟨a, _, cap, l, rfl, h1, h2, h3, h4⟩

theorem partCells_length (ps : List PartV) : (partCells ps).length = 2 * ps.length := by
  induction ps with
  | nil => rfl
  | cons p ps ih => simp only [partCells, List.flatMap_cons, List.length_append, List.length_cons, List.length_nil] at ih ⊢; omega
theorem cell_lt {W : World} {a : Addr} {v : Value} (h : W.cell? a = some v) : a.block < W.heap.size := by
  apply Classical.byContradiction
  intro hn
  have : W.heap[a.block]? = none := by simp; omega
  simp [World.cell?, this] at h
theorem row_parts {H : Type} {enc : TypeId × Value → H} {W : World} {fuel : Nat} {v : Value} {x : DataW H × List MemPlace} (h : DataW.trod enc Try.prog W 0 (fun _ => true) true fuel 23 [v] = some x) :
    ∃ (A : Option Addr) (ps : List PartV) (c : Nat), v = .slice A ps.length c ∧ ReadsC W A (partCells ps) ∧ ps.length ≤ maxLen := by
  rcases Deep.open_slice_pairs Try.underlying23 Try.underlying160 (by kernel_rfl) rfl rfl (by kernel_rfl) (by kernel_rfl) h with ⟨hcs, _⟩ | ⟨a, len, cap, m, n, V0, V1, D0, D1, P0, P1, hcs, _, hl, hm, hmm, _, hx⟩
  · simp only [List.cons.injEq, and_true] at hcs
    exact ⟨none, [], 0, hcs, fun h => absurd rfl h, Nat.zero_le _⟩
  · simp only [List.cons.injEq, and_true] at hcs
    simp only [if_true] at hmm
    subst hmm
    have each : ∀ i, i < m → ∃ p : PartV, W.cell? (a.add (i * 2)) = some (.int .i64 p.1) ∧ W.cell? (a.add (i * 2 + 1)) = some (.bool p.2) := by
      intro i hi
      obtain ⟨c0, c1, t0, t1⟩ := hx i hi
      obtain ⟨k, hk, _, _⟩ := DataW.trod_int (k := .i64) (by kernel_rfl) t0
      obtain ⟨b, hb, _⟩ := DataW.trod_bool (by kernel_rfl) t1
      simp only [List.cons.injEq, and_true] at hk hb
      exact ⟨(k, b), by rw [c0, hk], by rw [c1, hb]⟩
    obtain ⟨q, hq⟩ := Deep.choose_lt each
    have hpl : ((List.range len).map q).length = len := by simp
    refine ⟨some a, (List.range len).map q, m, by rw [hpl, hcs], ?_, by rw [hpl]; omega⟩
    intro hne
    have hlen : 0 < len := by
      rcases Nat.eq_zero_or_pos len with h0 | h0
      · subst h0; exact absurd rfl hne
      · exact h0
    have c0 := (hq 0 (by omega)).1
    obtain ⟨b, off, spot⟩ := a
    have hspot : spot = none := by simpa [Addr.add] using World.cell?_spot c0
    subst hspot
    refine ⟨b, off, rfl, cell_lt c0, fun j v hj => ?_⟩
    have hjl : j / 2 < len := by
      have := (List.getElem?_eq_some_iff.1 hj).1
      rw [partCells_length, hpl] at this
      omega
    have hat := partCells_at ((List.range len).map q) (j / 2) (by rw [hpl]; exact hjl)
    have hgd : ((List.range len).map q).getD (j / 2) (0, false) = q (j / 2) := by
      simp [List.getD_eq_getElem?_getD, List.getElem?_map, List.getElem?_range hjl]
    rw [hgd] at hat
    have hc := hq (j / 2) (by omega)
    have ea : ∀ k, (⟨b, off, none⟩ : Addr).add k = ⟨b, off + k, none⟩ := fun k => by unfold Addr.add; split <;> simp_all
    rcases Nat.mod_two_eq_zero_or_one j with h2 | h2
    · have e : j = 2 * (j / 2) := by omega
      rw [e] at hj
      rw [hat.1] at hj
      injection hj with hj
      rw [← hj, ← hc.1, ea, show off + j / 2 * 2 = off + j from by omega]
    · have e : j = 2 * (j / 2) + 1 := by omega
      rw [e] at hj
      rw [hat.2] at hj
      injection hj with hj
      rw [← hj, ← hc.2, ea, show off + (j / 2 * 2 + 1) = off + j from by omega]

theorem row_plan {H : Type} {enc : TypeId × Value → H} {W : World} {r : Reach} {b0 : Nat} {v : Value} {d : DataW H} {ps : List MemPlace} (hv : Value.okWide Try.prog W r b0 25 v) (h : DataW.Trod enc Try.prog W 0 (fun _ => true) true 25 v d ps) :
    ∃ (wide : Bool) (po : Int) (A : Option Addr) (ps : List PartV) (c : Nat), v = .agg #[.bool wide, .int .i64 po, .slice A ps.length c] ∧ ReadsC W A (partCells ps) ∧ ps.length ≤ maxLen ∧ (Lit.int .i64 po).wf = true := by
  obtain ⟨cs, rfl, hsz⟩ := okWide_struct Try.underlying25 hv
  obtain ⟨fuel, hf⟩ := h
  obtain ⟨xs, n, _, _, hlen, hxl, hfld⟩ := DataW.trod_struct Try.underlying25 hf
  have h3 : cs.size = 3 := by rw [hsz]; kernel_rfl
  obtain ⟨v0, v1, v2, rfl⟩ : ∃ v0 v1 v2, cs = #[v0, v1, v2] := by
    obtain ⟨l⟩ := cs
    match l, h3 with
    | [v0, v1, v2], _ => exact ⟨v0, v1, v2, rfl⟩
  match xs, hxl with
  | [y0, y1, y2], _ =>
    have g0 := hfld 0 _ rfl
    have g1 := hfld 1 _ rfl
    have g2 := hfld 2 _ rfl
    have k0 : DataW.trod enc Try.prog W 0 (fun _ => true) true n 4 [v0] = some y0 := g0
    have k1 : DataW.trod enc Try.prog W 0 (fun _ => true) true n 3 [v1] = some y1 := g1
    have k2 : DataW.trod enc Try.prog W 0 (fun _ => true) true n 23 [v2] = some y2 := g2
    obtain ⟨b, hb, _⟩ := DataW.trod_bool (by kernel_rfl) k0
    obtain ⟨k, hk, _, hw⟩ := DataW.trod_int (k := .i64) (by kernel_rfl) k1
    obtain ⟨A, ps', c, rfl, hr, hm⟩ := row_parts k2
    simp only [List.cons.injEq, and_true] at hb hk
    subst hb; subst hk
    exact ⟨b, k, A, ps', c, rfl, hr, hm, hw⟩
end Go.Proofs.Ytdpgojcljlfnbaa
