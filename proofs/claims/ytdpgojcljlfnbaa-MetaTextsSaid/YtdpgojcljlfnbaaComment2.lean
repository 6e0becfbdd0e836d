/- The contract of meta.commentBody; comments of up to a million fields of up to a million bytes. -/
import Derived.Test.YtdpgojcljlfnbaaComment
import Derived.Test.YtdpgojcljlfnbaaStep
import Derived.Deep.RegionHeld3
--DEV
set_option linter.unusedVariables false
set_option linter.unusedSimpArgs false
set_option maxRecDepth 100000
namespace Go.Proofs.Ytdpgojcljlfnbaa
open Go.RowKit
open Go.Proofs.YtdpgojcljlfnbaaW.PrintWords

/-- A text behind its size. -/
def sizedL (s : ByteArray) : List Int := littleL s.size ++ bytesOf s
def sizedAll (fs : List ByteArray) : List Int := fs.flatMap sizedL
/-- A comment's body. -/
def commentL (mk : ByteArray) (fs : List ByteArray) : List Int := sizedL mk ++ littleL fs.length ++ sizedAll fs
theorem littleL_length (n : Int) : (littleL n).length = 4 := rfl
theorem sizedL_length (s : ByteArray) : (sizedL s).length = 4 + s.size := by rw [sizedL, List.length_append, littleL_length, bytesOf_length]
theorem sizedAll_snoc (fs : List ByteArray) (f : ByteArray) : sizedAll (fs ++ [f]) = sizedAll fs ++ sizedL f := by simp [sizedAll]
theorem sizedAll_length (fs : List ByteArray) : (sizedAll fs).length = fieldsSize fs := by
  induction fs with
  | nil => rfl
  | cons f fs ih => simp only [sizedAll, fieldsSize, List.flatMap_cons, List.length_append, sizedL_length, List.map_cons, List.sum_cons] at *; omega

set_option maxHeartbeats 2000000 in
theorem commentBody_any (mk : ByteArray) (A : Option Addr) (n c : Nat) (fs : List ByteArray) (w : World) (hr : ReadsS w A n fs) (hn : n ≤ 1000000) (hm : mk.size ≤ 1000000) (hf : ∀ f ∈ fs, f.size ≤ 1000000) :
    Calls Try.prog 103 #[.agg #[.string mk, .slice A n c]] w fun e w' => ∃ v, e = .returned v ∧ OwnI w' w.heap.size 5 .u8 v (commentL mk fs) ∧ Below w.heap.size w w' := by
  have HR := Lib.hid hr; have HF := Lib.hid hf
  have hl := hr.1
  clear hr hf
  subst hl
  obtain ⟨W0, hW0⟩ : ∃ W0, w.alloc (Obj.cells #[.string mk, .slice A fs.length c] 49) = W0 := ⟨_, rfl⟩
  have hblk0 : W0.heap[w.heap.size]? = some (.cells #[.string mk, .slice A fs.length c] 49 (0, 0)) := by rw [← hW0]; exact heap_alloc_new w _
  have hb0 : Below w.heap.size w W0 := by rw [← hW0]; exact ba _ _
  have HB0 := Lib.hid hblk0
  have hs0 : w.heap.size < W0.heap.size := blk_lt hblk0
  clear hblk0
  go_enter Try.func103, Try.ntmps103
  go_wp2_with fail
  clear hW0
  have HBD := Lib.hid (bd1 W0)
  have HB1 := Lib.hid (blk_below HB0.out HBD.out)
  have hk0 : W0.drew.cell? ⟨w.heap.size, 0, none⟩ = some (.string mk) := blk_cell HB1.out 0
  have HK0 := Lib.hid hk0
  clear hk0
  go_region_held3 (fun w' => w'.cell? ⟨w.heap.size, 0, none⟩ = some (.string mk)) (first | (with_reducible exact HK0.out) | (with_reducible assumption)) (first | ((refine step_append_str (w0 := w) (W := w1) w.heap.size rfl (.tmp 9) (.tmp 11) 37 9 5 rfl Try.underlying37 Try.underlying9 info_u8 v1 (littleL mk.size) mk rfl rfl (own_weaken hown1 (Nat.le_of_lt hs0)) (bt hb0 (bt HBD.out hb1)) (Nat.le_trans (Nat.le_of_lt hs0) hb1.size) (by rw [littleL_length]; omega) ?_); (intro v2 w2 hown2 hb2 hg2); have hk2 : w2.cell? ⟨w.heap.size, 0, none⟩ = some (.string mk) := (hg2.block w.heap.size (Nat.lt_of_lt_of_le hs0 hb1.size) (fun he => by have := own_base hown1 _ he.symm; exact absurd this (Nat.not_le_of_lt hs0)) |> fun e => (World.cell?_of_block (a := ⟨w.heap.size, 0, none⟩) e).trans hk1)) | (((with_reducible refine (little_any mk.size _ (by omega) (by omega)).mono ?_); (rintro e w1 ⟨v1, rfl, hown1, hb1⟩); have hk1 : w1.cell? ⟨w.heap.size, 0, none⟩ = some (.string mk) := pw_cell_below hb1 HK0.out)))
  try clear hHeld
  have hle1 : w.heap.size < w1.heap.size := Nat.lt_of_lt_of_le hs0 hb1.size
  have hne1 : some w.heap.size ≠ v1.ownBlock := fun he => by have := own_base hown1 _ he.symm; exact absurd this (Nat.not_le_of_lt hs0)
  have HB2 := Lib.hid ((hg2.block w.heap.size hle1 hne1).trans (blk_below HB1.out hb1))
  have hbw2 := Lib.hid hb2
  have HO2 := Lib.hid hown2
  have hs2 : w.heap.size < w2.heap.size := blk_lt HB2.out
  clear hown1 hb1 hk1 hown2 hb2 hg2 hk2 hle1 hne1
  have k1 : w2.cell? ⟨w.heap.size, 1, none⟩ = some (.slice A fs.length c) := blk_cell HB2.out 1
  have htot : fieldsSize fs ≤ 1000004 * 1000000 := Nat.le_trans (fieldsSize_bd fs HF.out) (Nat.mul_le_mul_left _ hn)
  have hmkl : (sizedL mk).length = 4 + mk.size := sizedL_length mk
  have HMKL := Lib.hid hmkl
  clear hmkl
  go_wp2_with fail
  refine (little_any fs.length w2 (by omega) (by omega)).mono ?_
  rintro e w3 ⟨v3, rfl, hown3, hb3⟩
  obtain ⟨A3, c3, rfl, hrd3⟩ := own_reads hown3
  have HR3 := Lib.hid hrd3
  have HO3 := Lib.hid (pw_own_below HO2.out hb3)
  have HBW3 := Lib.hid (bt hbw2.out hb3)
  have HB3 := Lib.hid (blk_below HB2.out hb3)
  have hs3 : w.heap.size ≤ w3.heap.size := Nat.le_trans (Nat.le_of_lt hs2) hb3.size
  have hne3 : w.heap.size < w3.heap.size := Nat.lt_of_lt_of_le hs2 hb3.size
  clear hown3 hrd3 hb3 k1
  go_wp2_with (at_builtin; refine print_append_row (w0 := w) (W := w3) w.heap.size rfl (.tmp 13) (.tmp 17) 37 5 .u8 1 rfl Try.underlying37 info_u8 (by decide) v2 (sizedL mk) (littleL fs.length) A3 4 c3 rfl rfl HO3.out HR3.out HBW3.out hs3 (by rw [HMKL.out]; omega) ?_; rintro v4 w4 hown4 hb4 hg4 hat4; have k4 : w4.cell? ⟨w.heap.size, 1, none⟩ = some (.slice A fs.length c) := ((World.cell?_of_block (a := ⟨w.heap.size, 1, none⟩) (hg4.block w.heap.size hne3 (own_ne HO3.out HB3.out (by decide)))).trans (blk_cell HB3.out 1)))
  obtain ⟨pre, hpre⟩ : ∃ pre, sizedL mk ++ littleL (fs.length : Int) = pre := ⟨_, rfl⟩
  have hprel : pre.length = 8 + mk.size := by rw [← hpre, List.length_append, HMKL.out, littleL_length]; omega
  have hfin : commentL mk fs = pre ++ sizedAll fs := by rw [← hpre]; rfl
  rw [hpre] at hown4
  have HO4 := Lib.hid hown4; have HBW4 := Lib.hid hb4; have HPL := Lib.hid hprel; have HFIN := Lib.hid hfin
  try clear hHeld
  clear hpre hown4 hb4 hg4 hat4 k4 hprel hfin
  go_loopw [3, 22] (fun v i wr => Hid (∃ j : Nat, j ≤ fs.length ∧ i = .int .i64 j ∧ wr.ownsRow w.heap.size 5 1 v (pre ++ sizedAll (fs.take j)).length (nums .u8 (pre ++ sizedAll (fs.take j))) ∧ Below w.heap.size w wr)) (fun _ i _ => fs.length - (intOf i).toNat)
  case atStart => exact Lib.hid ⟨0, Nat.zero_le _, rfl, by simpa [sizedAll] using HO4.out, HBW4.out⟩
  case round =>
    obtain ⟨j, hj, rfl, hown, hbr⟩ := hrel.out
    clear hrel
    have HO := Lib.hid hown
    clear hown
    by_cases hlt : j < fs.length
    · obtain ⟨ad, rfl, hc⟩ := rdS_nat (HR.out.below hbr) hlt
      have hts := takeS_snoc fs j hlt
      have hmem := getDS_mem fs j hlt
      obtain ⟨f, hf⟩ : ∃ f, fs.getD j ByteArray.empty = f := ⟨_, rfl⟩
      rw [hf] at hc hts hmem
      have hfz := HF.out f hmem
      have hsn : pre ++ sizedAll (fs.take (j + 1)) = (pre ++ sizedAll (fs.take j)) ++ littleL f.size ++ bytesOf f := by rw [hts, sizedAll_snoc, sizedL]; simp
      have hle : (pre ++ sizedAll (fs.take j)).length ≤ 2000000000000 := by
        rw [List.length_append, HPL.out, sizedAll_length]
        have h1 := fieldsSize_bd (fs.take j) fun x hx => HF.out x (List.mem_of_mem_take hx)
        have h2 : 1000004 * (fs.take j).length ≤ 1000004 * 1000000 := Nat.mul_le_mul_left _ (by rw [List.length_take]; omega)
        omega
      obtain ⟨L, hL⟩ : ∃ L, pre ++ sizedAll (fs.take j) = L := ⟨_, rfl⟩
      rw [hL] at hsn hle HO
      have HSN := Lib.hid hsn
      have hbs : w.heap.size ≤ wr.heap.size := hbr.size
      clear hf hts hmem hsn hL
      go_wp2_with fail
      refine (little_any f.size wr (by omega) (by omega)).mono ?_
      rintro e w5 ⟨v5, rfl, hown5, hb5⟩
      obtain ⟨A5, c5, rfl, hrd5⟩ := own_reads hown5
      have HR5 := Lib.hid hrd5
      have HO5 := Lib.hid (pw_own_below HO.out hb5)
      have HBW5 := Lib.hid (bt hbr hb5)
      have hs5 : w.heap.size ≤ w5.heap.size := HBW5.out.size
      clear hown5 hrd5 hb5 hc
      go_wp2_with (first | (at_builtin; refine print_append_str (w0 := w) (W := w6) w.heap.size rfl (.tmp 31) (.tmp 32) 37 9 5 rfl Try.underlying37 Try.underlying9 info_u8 v6 (L ++ littleL f.size) f rfl rfl hown6 hb6 hb6.size (by rw [List.length_append, littleL_length]; omega) ?_; rintro v7 w7 hown7 hb7 hg7) | (at_builtin; refine print_append_row (w0 := w) (W := w5) w.heap.size rfl (.tmp 26) (.tmp 29) 37 5 .u8 1 rfl Try.underlying37 info_u8 (by decide) u3 L (littleL f.size) A5 4 c5 rfl rfl HO5.out HR5.out HBW5.out hs5 (by omega) ?_; rintro v6 w6 hown6 hb6 hg6 hat6))
      go_roundw
      case rel => exact Lib.hid ⟨j + 1, by omega, by go_num, by rw [HSN.out]; exact hown7, hb7⟩
      case measure => simp [intOf]; omega
    · obtain rfl : j = fs.length := by omega
      go_wp2
      go_ret
      refine ⟨_, rfl, ?_, hbr⟩
      have h := HO.out
      rw [List.take_length, ← HFIN.out] at h
      exact h
end Go.Proofs.Ytdpgojcljlfnbaa
