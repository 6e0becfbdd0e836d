/- The chapter's example of layer 16. -/
import Derived.Test.YtdpgojcljlfnbaaSame
set_option linter.unusedVariables false
set_option linter.unusedSimpArgs false
set_option maxRecDepth 100000
namespace Go.Proofs.Ytdpgojcljlfnbaa
open Go.RowKit
open Go.Proofs.YtdpgojcljlfnbaaW.PrintWords

def sub0 : SubV := ⟨0, 0, 0, 0, 0, none, [], 0, false, 0, none, [], 0⟩
theorem sub0_bits : bitsI [-1, -1] sub0 8 = (16, 0) := by decide
theorem sub0_put : toBytes ([] ++ putBits [-1, -1] sub0 8) = [0, 255] := by decide
theorem sub0_val : subVal sub0 = .agg #[.int .i64 0, .int .i64 0, .int .i64 0, .int .i64 0, .int .i64 0, .slice none 0 0, .bool false, .int .i64 0, .slice none 0 0] := rfl
theorem sub0_r (w : World) : SubR w sub0 := ⟨⟨rfl, by decide, fun h => absurd h (by decide)⟩, by decide, fun h => absurd rfl h, by decide⟩

theorem awake16_any (w : World) : Calls Try.prog 12 #[] w fun e w' => e = .returned (.bool true) ∧ Below w.heap.size w w' := by
  go_enter Try.func12, Try.ntmps12
  go_wp2_with fail
  refine (New_any w).mono ?_
  rintro e w1 ⟨rfl, hw1, hb1⟩
  have HW1 := Lib.hid hw1
  clear hw1
  go_wp2_with fail
  have hown := own_lit w1 w1.heap.size 3 .i64 [-1, -1] (Nat.le_refl _) (by simp)
  have hbw : Below w1.heap.size w1 (w1.alloc (Obj.cells (nums .i64 [-1, -1]).toArray 3)) := ba _ _
  have HO := Lib.hid hown
  have HWa := Lib.hid (HW1.out.below hbw)
  refine (Put01_any w.heap.size w.heap.size _ [] (some ⟨w1.heap.size, 0, none⟩) 2 2 [-1, -1] sub0 8 _ HWa.out (fun W v' hst => own_rd (hst.own_ HWa.out HO.out (by decide) (by decide)) rfl) (sub0_r _) (by decide) (by decide) (Nat.le_trans hb1.size hbw.size) (.inl rfl) (by rw [sub0_bits])).mono ?_
  rintro e w2 ⟨rfl, v2, hw2, hs2⟩
  go_wp2_with fail
  have hown2 := own_lit w2 w2.heap.size 3 .i64 [-1, -1] (Nat.le_refl _) (by simp)
  have hbw2 : Below w2.heap.size w2 (w2.alloc (Obj.cells (nums .i64 [-1, -1]).toArray 3)) := ba _ _
  have hb2 : Below w.heap.size w w2 := hs2.below (hb1.trans (hbw.mono hb1.size)) (Nat.le_refl _) (fun k hk => by cases hk)
  refine (Bits_any (some ⟨w2.heap.size, 0, none⟩) 2 2 [-1, -1] sub0 8 _ (own_rd hown2 rfl) (sub0_r _) (by decide)).mono ?_
  rintro e w3 ⟨rfl, hb3⟩
  rw [sub0_bits]
  have HW3 := Lib.hid ((hw2.below hbw2).below hb3)
  have hb3' := bt hb2 (bt hbw2 hb3)
  clear hw2 hs2 hown2 hbw2 hb3 hown hbw hb1 HO HWa HW1 hb2
  go_wp2_with fail
  refine (Bytes_any w.heap.size w.heap.size v2 _ _ HW3.out (by decide)).mono ?_
  rintro e w4 ⟨v4, rfl, hown4, hb4⟩
  rw [sub0_put] at hown4
  obtain ⟨A4, c4, rfl, hrc4⟩ := own_reads hown4
  have HR4 := Lib.hid hrc4
  have hb4' := bt hb3' hb4
  clear hown4 hrc4 HW3 hb4 hb3'
  go_wp2_with fail
  have hown5 := own_lit w4 w4.heap.size 5 .u8 [0, 255] (Nat.le_refl _) (by simp)
  have hbw5 : Below w4.heap.size w4 (w4.alloc (Obj.cells (nums .u8 [0, 255]).toArray 5)) := ba _ _
  refine (Same_any A4 2 c4 [0, 255] (some ⟨w4.heap.size, 0, none⟩) 2 2 [0, 255] _ (HR4.out.below hbw5) (own_rd hown5 rfl)).mono ?_
  rintro e w5 ⟨rfl, hb5⟩
  clear hown5
  go_wp2
  go_ret
  exact ⟨rfl, bt hb4' (bt hbw5 hb5)⟩
end Go.Proofs.Ytdpgojcljlfnbaa
