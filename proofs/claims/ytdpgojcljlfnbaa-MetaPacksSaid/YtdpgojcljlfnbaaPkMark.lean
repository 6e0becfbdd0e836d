/- Contracts of functions that the law reaches: Mark, HasPre. -/
import Derived.Test.YtdpgojcljlfnbaaPkRead
import Derived.Test.YtdpgojcljlfnbaaPackOne
section
/- Blocks in a row: what packed ones are; appending to a row that is full or the call's own. -/
set_option linter.unusedVariables false
set_option linter.unusedSimpArgs false
set_option maxRecDepth 100000
namespace Go.Proofs.Ytdpgojcljlfnbaa
open Go.RowKit
open Go.Proofs.YtdpgojcljlfnbaaW.PrintWords
open Go.Proofs.Ytdpgojcljlfnbaa.PMetaPacks (S39 k39 z39 rd_T39 at_T39)

/-- A row that a call may append to: its own, or one that is full. -/
def Marked (W : World) (base e : Nat) (kd : IntKind) (v : Value) (xs : List Int) : Prop :=
  OwnI W base e kd v xs ∨ ∃ g, v = .slice (some ⟨g, 0, none⟩) xs.length xs.length ∧ base ≤ g ∧ g < W.heap.size ∧ ∀ j u, (nums kd xs)[j]? = some u → W.cell? ⟨g, j, none⟩ = some u
theorem grownBy_any {w w' : World} (h : w.grownBy w' none) (row : Option Nat) : w.grownBy w' row := ⟨h.os, h.tape, h.output, h.size, fun k hk _ => h.block k hk (by simp)⟩
theorem Marked.lt {W : World} {base e : Nat} {kd : IntKind} {v : Value} {xs : List Int} (h : Marked W base e kd v xs) : ∀ k, v.ownBlock = some k → base ≤ k ∧ k < W.heap.size := by
  intro k hk
  rcases h with h | ⟨g, rfl, hb, hg, _⟩
  · exact ⟨own_base h k hk, own_lt h k hk⟩
  · have : g = k := by simpa [Value.ownBlock] using hk
    subst this
    exact ⟨hb, hg⟩
theorem Marked.slice {W : World} {base e : Nat} {kd : IntKind} {v : Value} {xs : List Int} (h : Marked W base e kd v xs) : ∃ A c, v = .slice A xs.length c := by
  rcases h with h | ⟨g, rfl, hb, hg, _⟩
  · obtain ⟨A, c, hv, _⟩ := own_reads h
    exact ⟨A, c, hv⟩
  · exact ⟨_, _, rfl⟩
theorem Marked.below {W W' : World} {base e : Nat} {kd : IntKind} {v : Value} {xs : List Int} (h : Marked W base e kd v xs) (hb : Below W.heap.size W W') : Marked W' base e kd v xs := by
  rcases h with h | ⟨g, rfl, h1, h2, h3⟩
  · exact .inl (own_move h (fun k hk => hb.block k (own_lt h k hk)))
  · exact .inr ⟨g, rfl, h1, Nat.lt_of_lt_of_le h2 hb.size, fun j u hj => by rw [World.cell?_of_block (hb.block g h2)]; exact h3 j u hj⟩

section
variable {P : Program} {ops : Array Oper} {rest : List Oper} {o : Oper} {a : Act} {Q : Exit → Act → World → Prop}
theorem append_marked {w0 W : World} (base : Nat) (hgd : o.guard = none) (s x : Operand) (t e : TypeId) (k : IntKind) (bytes : Nat)
    (ho : o.op = .call { callee := .builtin .append, args := #[s, x], argTypes := #[t, t] })
    (ht : P.underlying t = some (.slice e)) (hinfo : (P.info? e).map (fun i => (i.zero, i.size, i.bytes)) = some (some (.int k 0), 1, bytes)) (hb0 : 0 < bytes)
    (v : Value) (xs ys : List Int) (A : Option Addr) (m c : Nat) (hs : a.eval s = v) (hx : a.eval x = .slice A m c) (hm : 0 < m)
    (HO : Marked W base e k v xs) (HR : ReadsInt W k A m ys) (HB : Below base w0 W) (hbase : base ≤ W.heap.size) (hl : (xs.length + m) * bytes ≤ 140737488355328)
    (h : ∀ v1 w1, OwnI w1 base e k v1 (xs ++ ys) → Below base w0 w1 → W.grownBy w1 v.ownBlock → wpList P ops Q rest (a.put o.dst v1) w1) :
    wpList P ops Q (o :: rest) a W := by
  rcases HO with HO | ⟨g, rfl, hbg, hg, hcells⟩
  · exact print_append_row (w0 := w0) base hgd s x t e k bytes ho ht hinfo hb0 v xs ys A m c hs hx HO HR HB hbase hl (fun v1 w1 h1 h2 h3 _ => h v1 w1 h1 h2 h3)
  · obtain ⟨i0, hi, hzz⟩ := Option.map_eq_some_iff.1 hinfo
    simp only [Prod.mk.injEq] at hzz
    obtain ⟨hz0, hz1, hz2⟩ := hzz
    have hml : ys.length = m := HR.1
    obtain ⟨ad, rfl, hrd⟩ := HR.2.2 (by omega)
    have hle : xs.length + m ≤ 140737488355328 := Nat.le_trans (Nat.le_mul_of_pos_right _ hb0) hl
    refine wpList_append_grows W hgd s x t ho e i0 (.int k 0) 1 bytes ht hi hz0 hz1 hz2 rfl (by omega) (some ⟨g, 0, none⟩) xs.length xs.length (nums k xs) hs (fun h0 => by cases h0) (by simp [nums]) ?_ ad m c (nums k ys) hx (by simp [nums, hml]) ?_ ?_ (by omega) (by simp only [maxLen]; omega) hl ?_
    · intro b hb j u hj
      cases hb
      rw [Addr.add_lit]
      simpa using hcells j u hj
    · intro j u hj
      have hj2 : j < ys.length := by
        rcases Nat.lt_or_ge j ys.length with h2 | h2
        · exact h2
        · rw [List.getElem?_eq_none (by simpa [nums] using h2)] at hj
          cases hj
      have := hrd j (by omega)
      rw [this]
      rw [← hj]
      simp [nums, List.getElem?_map, List.getD, List.getElem?_eq_getElem hj2]
    · intro u hu
      simp only [nums, List.mem_map] at hu
      obtain ⟨z, _, rfl⟩ := hu
      rfl
    · intro v' w' hown hgr
      have hn : nums k xs ++ nums k ys = nums k (xs ++ ys) := by simp [nums]
      have hlen : (xs ++ ys).length = xs.length + m := by rw [List.length_append, hml]
      refine h v' w' ?_ ?_ (grownBy_any hgr _)
      · show w'.ownsRow base e 1 v' (xs ++ ys).length (nums k (xs ++ ys))
        rw [hlen, ← hn]
        exact own_weaken hown hbase
      · exact HB.grown (grownBy_any hgr none) hbase (fun k hk => by cases hk)
end
end Go.Proofs.Ytdpgojcljlfnbaa
end
section
/- The contracts of bytes.Equal and bytes.HasPrefix. -/
set_option linter.unusedVariables false
set_option linter.unusedSimpArgs false
set_option maxRecDepth 100000
namespace Go.Proofs.Ytdpgojcljlfnbaa
open Go.RowKit
open Go.Proofs.YtdpgojcljlfnbaaW.PrintWords

theorem bytesEqual_any (A B : Option Addr) (c d : Nat) (ys zs : List Int) (w : World) (hy : ReadsInt w .u8 A ys.length ys) (hz : ReadsInt w .u8 B zs.length zs) :
    Calls Try.prog 109 #[.slice A ys.length c, .slice B zs.length d] w fun e w' => e = .returned (.bool ((strOfNums ys).toList == (strOfNums zs).toList)) ∧ w = w' := by
  have c1 := string_of_reads (P := Try.prog) (c := c) Try.underlying37 Try.underlying5 Try.underlying9 hy
  have c2 := string_of_reads (P := Try.prog) (c := d) Try.underlying37 Try.underlying5 Try.underlying9 hz
  go_enter Try.func109, Try.ntmps109
  go_wp2
  go_ret
  exact ⟨rfl, rfl⟩
theorem bytesHasPrefix_any (A B : Option Addr) (c d : Nat) (ys zs : List Int) (w : World) (hy : ReadsInt w .u8 A ys.length ys) (hz : ReadsInt w .u8 B zs.length zs) (hc : ys.length ≤ c) (hl : zs.length ≤ ys.length) :
    Calls Try.prog 71 #[.slice A ys.length c, .slice B zs.length d] w fun e w' => e = .returned (.bool ((strOfNums (ys.take zs.length)).toList == (strOfNums zs).toList)) ∧ w = w' := by
  have ht : (ys.take zs.length).length = zs.length := by rw [List.length_take]; omega
  have ht2 := hy.take_ zs.length hl
  rw [← ht] at ht2
  have HC := Lib.hid (bytesEqual_any A B c d (ys.take zs.length) zs w (by rw [ht] at ht2 ⊢; exact ht2) hz)
  obtain ⟨i0, hi0, hz0, hs0, hb0⟩ := info_parts info_u8
  have hcut := cut_to (P := Try.prog) 37 5 .i64 Try.underlying37 hi0 A ys.length c zs.length (by omega) (by omega) hc
  rw [Int.toNat_natCast] at hcut
  rw [ht] at HC
  clear ht ht2 hy hz
  go_enter Try.func71, Try.ntmps71
  go_wp2_with fail
  refine HC.out.mono ?_
  rintro e w' ⟨rfl, rfl⟩
  go_wp2
  go_ret
  exact ⟨rfl, rfl⟩
end Go.Proofs.Ytdpgojcljlfnbaa
end
