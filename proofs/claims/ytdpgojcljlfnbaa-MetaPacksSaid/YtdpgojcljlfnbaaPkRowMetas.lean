/- An argument that is a list of blocks, opened. -/
import Derived.Test.YtdpgojcljlfnbaaPkRowKit
import Derived.Test.YtdpgojcljlfnbaaPkPack
import Derived.Test.YtdpgojcljlfnbaaRows
set_option linter.unusedVariables false
set_option linter.unusedSimpArgs false
set_option maxRecDepth 100000
namespace Go.Proofs.Ytdpgojcljlfnbaa
open Go.RowKit Go.ChangeShapes Go.WideShapes Go.ChangeAt
open Go.Proofs.YtdpgojcljlfnbaaW.PrintWords
open Go.Proofs.Ytdpgojcljlfnbaa.PMetaPacks (S39 k39 z39 rd_T39 at_T39 k39_mk)

theorem bulk_len {H : Type} (l : List (DataW H)) : l.length ≤ Rows.uptoBulkAll l := by
  induction l with
  | nil => simp [Rows.uptoBulkAll]
  | cons x r ih =>
    have h1 : 1 ≤ Rows.uptoBulk x := by
      cases x with
      | lit l => cases l <;> simp [Rows.uptoBulk]
      | nil => simp [Rows.uptoBulk]
      | ptr d => simp [Rows.uptoBulk]
      | slice elems spare => simp [Rows.uptoBulk]
      | agg parts => simp [Rows.uptoBulk]
      | iface t d => simp [Rows.uptoBulk]
      | map entries => simp [Rows.uptoBulk]
      | held h => simp [Rows.uptoBulk]
    simp only [Rows.uptoBulkAll, List.length_cons]
    omega
theorem bulk_part {H : Type} {d : DataW H} {l : List (DataW H)} (h : d ∈ l) : Rows.uptoBulk d ≤ Rows.uptoBulkAll l := by
  induction l with
  | nil => cases h
  | cons x r ih =>
    simp only [Rows.uptoBulkAll]
    rcases List.mem_cons.1 h with e | e
    · subst e; omega
    · have := ih e; omega
/-- What a row of bytes that came in is. -/
theorem row_bytes {H : Type} {enc : TypeId × Value → H} {W : World} {fuel : Nat} {v : Value} {x : DataW H × List MemPlace} (h : DataW.trod enc Try.prog W 0 (fun _ => true) true fuel 37 [v] = some x) :
    ∃ (A : Option Addr) (xs : List Int) (c : Nat), v = .slice A xs.length c ∧ ReadsInt W .u8 A xs.length xs ∧ xs.length ≤ c ∧ (∀ y ∈ xs, (Lit.int .u8 y).wf = true) ∧ xs.length ≤ Rows.uptoBulk x.1 := by
  rcases open_ints Try.underlying37 Try.underlying5 (by kernel_rfl) h with ⟨hcs, _⟩ | ⟨a, l, c, zs, hcs, _, hl, hm, hz, hx, hcell, hwz⟩
  · simp only [List.cons.injEq, and_true] at hcs
    exact ⟨none, [], 0, hcs, ⟨rfl, by simp, fun hn => absurd hn (by simp)⟩, Nat.le_refl _, fun y hy => (by cases hy), Nat.zero_le _⟩
  · simp only [List.cons.injEq, and_true] at hcs
    simp only [if_true] at hz
    have hlen : (zs.take l).length = l := by rw [List.length_take]; omega
    refine ⟨some a, zs.take l, c, by rw [hlen, hcs], ?_, by rw [hlen]; exact hl, fun y hy => hwz y (List.mem_of_mem_take hy), ?_⟩
    · rw [hlen]
      refine ⟨hlen, by simp only [maxLen] at hm; omega, fun hn => ⟨a, rfl, fun j hj => ?_⟩⟩
      rw [hcell j (by omega)]
      congr 2
      rw [List.getD_eq_getElem?_getD, List.getD_eq_getElem?_getD, List.getElem?_take_of_lt hj]
    · rw [hx]
      simp only [Rows.uptoBulk]
      have h2 := bulk_len (lits (H := H) .u8 (zs.take l))
      have h3 : (lits (H := H) .u8 (zs.take l)).length = (zs.take l).length := by simp [lits]
      omega
theorem row_metas {H : Type} {enc : TypeId × Value → H} {W : World} {fuel : Nat} {v : Value} {x : DataW H × List MemPlace} (h : DataW.trod enc Try.prog W 0 (fun _ => true) true fuel 80 [v] = some x) :
    ∃ (A : Option Addr) (l : List S39) (c : Nat), v = .slice A l.length c ∧ Kd.C k39 W A l.length l ∧ l.length ≤ c ∧ l.length ≤ maxLen ∧ (∀ m ∈ l, (Lit.int .i64 m.f0).wf = true ∧ ∀ y ∈ m.f1, (Lit.int .u8 y).wf = true) ∧
      l.length ≤ Rows.uptoBulk x.1 ∧ ∀ m ∈ l, m.f1.length ≤ Rows.uptoBulk x.1 := by
  rcases Deep.open_slice_pairs Try.underlying80 Try.underlying39 (by kernel_rfl) rfl rfl (by kernel_rfl) (by kernel_rfl) h with ⟨hcs, _⟩ | ⟨a, len, cap, m, n, V0, V1, D0, D1, P0, P1, hcs, _, hl, hm, hmm, hxx, hx⟩
  · simp only [List.cons.injEq, and_true] at hcs
    exact ⟨none, [], 0, hcs, ⟨rfl, by simp, fun hn => absurd hn (by simp)⟩, Nat.le_refl _, Nat.zero_le _, fun y hy => (by cases hy), Nat.zero_le _, fun y hy => (by cases hy)⟩
  · simp only [List.cons.injEq, and_true] at hcs
    simp only [if_true] at hmm
    subst hmm
    have each : ∀ i, i < m → ∃ p : S39, (∃ A1 c1, W.cell? (a.add (i * 2)) = some (.int .i64 p.f0) ∧ W.cell? (a.add (i * 2 + 1)) = some (.slice A1 p.f1.length c1) ∧ p.f1.length ≤ c1 ∧ ReadsInt W .u8 A1 p.f1.length p.f1) ∧ (Lit.int .i64 p.f0).wf = true ∧ (∀ y ∈ p.f1, (Lit.int .u8 y).wf = true) ∧ p.f1.length ≤ Rows.uptoBulk (D1 i) := by
      intro i hi
      obtain ⟨c0, c1, t0, t1⟩ := hx i hi
      obtain ⟨k, hk, _, hkw⟩ := DataW.trod_int (k := .i64) (by kernel_rfl) t0
      obtain ⟨A1, xs, cc, hv, hr, hc, hw, hb⟩ := row_bytes t1
      simp only [List.cons.injEq, and_true] at hk
      exact ⟨⟨k, xs⟩, ⟨A1, cc, by rw [c0, hk], by rw [c1, hv], hc, hr⟩, hkw, hw, hb⟩
    haveI : Inhabited S39 := ⟨z39⟩
    obtain ⟨q, hq⟩ := Deep.choose_lt each
    have hpl : ((List.range len).map q).length = len := by simp
    have hbk : len ≤ Rows.uptoBulk x.1 ∧ ∀ i, i < len → Rows.uptoBulk (D1 i) ≤ Rows.uptoBulk x.1 := by
      rw [hxx]
      have h2 := bulk_len ((List.range len).map fun i => DataW.agg [D0 i, D1 i])
      rw [List.length_map, List.length_range] at h2
      refine ⟨by simp only [Rows.uptoBulk]; omega, fun i hi => ?_⟩
      have h3 := bulk_part (d := DataW.agg [D0 i, D1 i]) (l := (List.range len).map fun i => DataW.agg [D0 i, D1 i]) (List.mem_map.2 ⟨i, List.mem_range.2 hi, rfl⟩)
      simp only [Rows.uptoBulk, Rows.uptoBulkAll] at h3 ⊢
      omega
    refine ⟨some a, (List.range len).map q, m, by rw [hpl, hcs], ?_, by rw [hpl]; exact hl, by rw [hpl]; omega, ?_, by rw [hpl]; exact hbk.1, ?_⟩
    · refine ⟨rfl, by rw [hpl]; simp only [maxLen] at hm; omega, fun hn => ⟨a, rfl, fun j p hj => ?_⟩⟩
      have hjl : j < len := by have := (List.getElem?_eq_some_iff.1 hj).1; rw [hpl] at this; exact this
      obtain rfl : q j = p := by simpa [List.getElem?_map, List.getElem?_range hjl] using hj
      obtain ⟨⟨A1, c1, e0, e1, hc1, hr1⟩, _⟩ := hq j (by omega)
      refine ⟨_, rfl, k39_mk W (q j) hc1 (Kd.C_of_reads (d := 0) hr1), fun i u hi => ?_⟩
      match i, hi with
      | 0, hi => simp at hi; subst hi; exact e0
      | 1, hi => simp at hi; subst hi; exact e1
    · intro p hp
      obtain ⟨i, hi, rfl⟩ := List.mem_map.1 hp
      obtain ⟨_, h1, h2, _⟩ := hq i (by have := List.mem_range.1 hi; omega)
      exact ⟨h1, h2⟩
    · intro p hp
      obtain ⟨i, hi, rfl⟩ := List.mem_map.1 hp
      obtain ⟨_, _, _, h3⟩ := hq i (by have := List.mem_range.1 hi; omega)
      exact Nat.le_trans h3 (hbk.2 i (List.mem_range.1 hi))
end Go.Proofs.Ytdpgojcljlfnbaa
