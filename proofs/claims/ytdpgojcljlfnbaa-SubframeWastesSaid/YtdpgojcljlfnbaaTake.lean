/- The contract of subframe.Take, where a subframe of numbers as they are stands. -/
import Derived.Test.YtdpgojcljlfnbaaBegin
import Derived.Test.YtdpgojcljlfnbaaMapLit
set_option linter.unusedVariables false
set_option linter.unusedSimpArgs false
set_option maxRecDepth 100000
namespace Go.Proofs.Ytdpgojcljlfnbaa
open Go.RowKit
open Go.Proofs.YtdpgojcljlfnbaaW.PrintWords

theorem p2_mono {a b : Nat} (h : a ≤ b) : p2 a ≤ p2 b := by unfold p2; have := Nat.pow_le_pow_right (n := 2) (by decide) h; omega
theorem numsAt_bd (bs : List Bool) (k width n : Nat) : ∀ x ∈ numsAt bs k width n, -(p2 width) ≤ x ∧ x ≤ p2 width := by
  induction n with
  | zero => intro x hx; simp [numsAt] at hx
  | succ n ih =>
    intro x hx
    rw [numsAt, List.mem_append, List.mem_singleton] at hx
    rcases hx with hx | rfl
    · exact ih x hx
    · have h1 := numB_lt ((bs.drop (k + width * n)).take width)
      have h2 : 2 ^ ((bs.drop (k + width * n)).take width).length ≤ 2 ^ width := Nat.pow_le_pow_right (by decide) (by rw [List.length_take]; omega)
      have hp := p2_pos width
      have h3 : ((2 ^ width : Nat) : Int) = p2 width := rfl
      unfold signI
      split <;> omega
theorem num_shift {x depth : Int} {kw : Nat} (h : -(p2 (depth - kw).toNat) ≤ x ∧ x ≤ p2 (depth - kw).toNat) (hd : (kw : Int) < depth ∧ depth ≤ 33) : -8589934592 ≤ x * p2 kw ∧ x * p2 kw ≤ 8589934592 := by
  have hp := p2_pos kw
  have e : p2 (depth - kw).toNat * p2 kw ≤ 8589934592 := by
    have : p2 (depth - kw).toNat * p2 kw = p2 ((depth - kw).toNat + kw) := by unfold p2; rw [Nat.pow_add, Int.natCast_mul]
    rw [this]
    have h33 : p2 ((depth - kw).toNat + kw) ≤ p2 33 := p2_mono (by omega)
    have : p2 33 = 8589934592 := rfl
    omega
  have h1 := Int.mul_le_mul_of_nonneg_right h.1 (Int.le_of_lt hp)
  have h2 := Int.mul_le_mul_of_nonneg_right h.2 (Int.le_of_lt hp)
  rw [Int.neg_mul] at h1
  omega

@[reducible] def verbCells (kw : Nat) : Array Value := #[.int .i64 1, .int .i64 kw, .int .i64 0, .int .i64 0, .int .i64 0, .slice none 0 0, .bool false, .int .i64 0, .slice none 0 0]
@[reducible] def zeroCells : Array Value := #[.int .i64 0, .int .i64 0, .int .i64 0, .int .i64 0, .int .i64 0, .slice none 0 0, .bool false, .int .i64 0, .slice none 0 0]

set_option maxHeartbeats 2000000 in
theorem TakeV_any (base g : Nat) (v : Value) (ys : List Int) (kw block : Nat) (depth : Int) (rest : List Bool) (w : World) (hR : IsR w base g v ys 0 0) (hbits : bitsOf ys = digits 1 7 ++ wasteBits kw ++ rest) (hkw : (kw : Int) < depth) (h4 : 4 ≤ depth) (hd : depth ≤ 33) (hb : 1 ≤ block) (hb2 : block ≤ 65535) (hl : (depth - kw).toNat * block ≤ rest.length) (hbase : base ≤ w.heap.size) :
    Calls Try.prog 47 #[.pointer (some ⟨g, 0, none⟩), .int .i64 block, .int .i64 depth] w fun e w' => ∃ v', e = .returned (.tuple #[v', .agg (verbCells kw), .int .i64 0]) ∧ OwnI w' w.heap.size 3 .i64 v' ((numsAt (bitsOf ys) (8 + kw) (depth - kw).toNat block).map (fun y => y * p2 kw)) ∧ RStep w w' g := by
  have HR := Lib.hid hR; have HBITS := Lib.hid hbits
  have hlen : 8 * ys.length = 8 + kw + rest.length := by rw [← bitsOf_length, hbits, List.length_append, List.length_append, digits_length, wasteBits_length]; omega
  have HLEN := Lib.hid hlen; have HL := Lib.hid hl
  clear hR hbits hlen hl
  obtain ⟨W0, hW0⟩ : ∃ W0, w.alloc (Obj.cells zeroCells 32) = W0 := ⟨_, rfl⟩
  have hblk0 : W0.heap[w.heap.size]? = some (.cells zeroCells 32 (0, 0)) := by rw [← hW0]; exact heap_alloc_new w _
  have hb0 : Below w.heap.size w W0 := by rw [← hW0]; exact ba _ _
  have HR0 := Lib.hid (HR.out.below hb0)
  have HBL0 := Lib.hid hblk0
  have HS0 := Lib.hid (RStep.of_below hb0 g)
  have hne : w.heap.size ≠ g := by have := blk_lt HR.out.blk; omega
  clear hb0 hblk0
  go_enter Try.func47, Try.ntmps47
  go_wp2_with fail
  clear hW0
  refine (begin1_any base g v ys kw block depth rest W0 HR0.out HBITS.out hkw hd (by omega)).mono ?_
  rintro e w1 ⟨rfl, hr1, hs1⟩
  have HR1 := Lib.hid hr1
  have HBL1 := Lib.hid (hs1.blk HR0.out.blk HBL0.out hne)
  have HS1 := Lib.hid (HS0.out.trans hs1)
  clear hr1 hs1
  have hmm := @run_makeMap Try.prog
  have ht : Try.prog.underlying 144 = some (.map 3 3) := Try.underlying144
  have hsz : (w1.alloc (Obj.cells (verbCells kw) 32)).heap.size = w1.heap.size + 1 := World.size_alloc _ _
  have i0 := run_insert_new ht Try.underlying3 (w1.alloc (Obj.cells (verbCells kw) 32)) #[] 0 0 (.int .i64 1) rfl
  have i1 := run_insert_new ht Try.underlying3 (w1.alloc (Obj.cells (verbCells kw) 32)) #[⟨.int .i64 0, .int .i64 1, 0⟩] 1 1 (.int .i64 block) rfl
  have i2 := run_insert_new ht Try.underlying3 (w1.alloc (Obj.cells (verbCells kw) 32)) #[⟨.int .i64 0, .int .i64 1, 0⟩, ⟨.int .i64 1, .int .i64 block, 1⟩] 2 2 (.int .i64 0) rfl
  have i3 := run_insert_new ht Try.underlying3 (w1.alloc (Obj.cells (verbCells kw) 32)) #[⟨.int .i64 0, .int .i64 1, 0⟩, ⟨.int .i64 1, .int .i64 block, 1⟩, ⟨.int .i64 2, .int .i64 0, 2⟩] 3 3 (.int .i64 0) rfl
  have i4 := run_look_map ht Try.underlying3 ((w1.alloc (Obj.cells (verbCells kw) 32)).alloc (Obj.map #[⟨.int .i64 0, .int .i64 1, 0⟩, ⟨.int .i64 1, .int .i64 block, 1⟩, ⟨.int .i64 2, .int .i64 0, 2⟩, ⟨.int .i64 3, .int .i64 0, 3⟩] 4)) _ _ _ (heap_alloc_new _ _) 1 1 (.int .i64 block) rfl
  rw [hsz] at i0 i1 i2 i3 i4
  clear hsz ht
  go_wp2_with fail
  clear i0 i1 i2 i3 i4 hmm
  have hbm : Below w1.heap.size w1 ((w1.alloc (Obj.cells (verbCells kw) 32)).alloc (Obj.map #[⟨.int .i64 0, .int .i64 1, 0⟩, ⟨.int .i64 1, .int .i64 block, 1⟩, ⟨.int .i64 2, .int .i64 0, 2⟩, ⟨.int .i64 3, .int .i64 0, 3⟩] 4)) := below_alloc (ba w1 _) _
  have hbl2 : ((w1.alloc (Obj.cells (verbCells kw) 32)).alloc (Obj.map #[⟨.int .i64 0, .int .i64 1, 0⟩, ⟨.int .i64 1, .int .i64 block, 1⟩, ⟨.int .i64 2, .int .i64 0, 2⟩, ⟨.int .i64 3, .int .i64 0, 3⟩] 4)).heap[w1.heap.size]? = some (.cells (verbCells kw) 32 (0, 0)) := blk_below (heap_alloc_new w1 _) (ba _ _)
  obtain ⟨W2, hW2⟩ : ∃ W2, ((w1.alloc (Obj.cells (verbCells kw) 32)).alloc (Obj.map #[⟨.int .i64 0, .int .i64 1, 0⟩, ⟨.int .i64 1, .int .i64 block, 1⟩, ⟨.int .i64 2, .int .i64 0, 2⟩, ⟨.int .i64 3, .int .i64 0, 3⟩] 4)) = W2 := ⟨_, rfl⟩
  have hW2b : (w1.alloc (Obj.cells #[.int .i64 1, .int .i64 kw, .int .i64 0, .int .i64 0, .int .i64 0, .slice none 0 0, .bool false, .int .i64 0, .slice none 0 0] 32)).alloc (Obj.map #[⟨.int .i64 0, .int .i64 1, 0⟩, ⟨.int .i64 1, .int .i64 block, 1⟩, ⟨.int .i64 2, .int .i64 0, 2⟩, ⟨.int .i64 3, .int .i64 0, 3⟩] 4) = W2 := hW2
  rw [hW2] at hbm hbl2
  try rw [hW2b]
  try rw [hW2]
  clear hW2 hW2b
  have HR2 := Lib.hid (HR1.out.below hbm)
  have HS2 := Lib.hid (HS1.out.trans (RStep.of_below hbm g))
  have HBL2 := Lib.hid (blk_below HBL1.out hbm)
  have HBS2 := Lib.hid hbl2
  have hs1 : w.heap.size < w1.heap.size := blk_lt HBL1.out
  have hs2 : w1.heap.size < W2.heap.size := blk_lt hbl2
  have hg1 : w1.heap.size ≠ g := by have := blk_lt HR1.out.blk; omega
  clear hbm hbl2
  have hwn : (((8 + kw : Nat)) + (depth - kw).toNat * block : Nat) ≤ 8 * ys.length := by have h1 := HLEN.out; have h2 := HL.out; omega
  have HWN := Lib.hid hwn
  clear hwn
  refine (numbers_any base g v ys (8 + kw) block (depth - kw) W2 HR2.out (by omega) (by omega) (by omega) HWN.out (by omega)).mono ?_
  rintro e w3 ⟨v3, rfl, hown3, hr3, hs3⟩
  have HR3 := Lib.hid hr3
  have HS3 := Lib.hid (HS2.out.trans hs3)
  have HBL3 := Lib.hid (hs3.blk HR2.out.blk HBL2.out hne)
  have HBS3 := Lib.hid (hs3.blk HR2.out.blk HBS2.out hg1)
  obtain ⟨XS, hXS⟩ : ∃ XS, numsAt (bitsOf ys) (8 + kw) (depth - kw).toNat block = XS := ⟨_, rfl⟩
  have hXL : XS.length = block := by rw [← hXS, numsAt_length]
  have hXB : ∀ x ∈ XS, -8589934592 ≤ x ∧ x ≤ 8589934592 := by rw [← hXS]; intro x hx; have := numsAt_bd _ _ _ _ x hx; have h33 : p2 (depth - kw).toNat ≤ p2 33 := p2_mono (by omega); have : p2 33 = 8589934592 := rfl; omega
  have hXK : ∀ x ∈ XS, -8589934592 ≤ x * p2 kw ∧ x * p2 kw ≤ 8589934592 := by rw [← hXS]; intro x hx; exact num_shift (numsAt_bd _ _ _ _ x hx) (by omega)
  have HXS := Lib.hid hXS; have HXL := Lib.hid hXL; have HXB := Lib.hid hXB; have HXK := Lib.hid hXK
  rw [hXS] at hown3
  obtain ⟨A3, cx, rfl, hrc3⟩ := own_reads hown3
  rw [hXL] at hown3 ⊢
  have HO3 := Lib.hid hown3
  clear hown3 hr3 hs3 hrc3 hXS hXL hXB hXK
  go_wp2_with fail
  refine (Fail_same base g v ys _ 0 w3 HR3.out).mono ?_
  rintro e w3' ⟨rfl, rfl⟩
  have c0 := blk_cell HBS3.out 0
  simp only [List.getElem?_toArray, List.getElem?_cons_zero, List.getElem?_cons_succ] at c0
  go_wp2_with fail
  clear c0
  have hYL : (XS.map fun x => x * p2 kw).length = block := by rw [List.length_map]; exact HXL.out
  obtain ⟨YS, hYS⟩ : ∃ YS, (XS.map fun x => x * p2 kw) = YS := ⟨_, rfl⟩
  rw [hYS] at hYL
  have HYS := Lib.hid hYS; have HYL := Lib.hid hYL
  clear hYS hYL
  go_loopw [123] (fun i wr => Hid (∃ j : Nat, j ≤ block ∧ i = .int .i64 j ∧ wr.ownsRow W2.heap.size 3 1 (.slice A3 block cx) block (nums .i64 (YS.take j ++ XS.drop j)) ∧ wr.heap[w1.heap.size]? = some (.cells (verbCells kw) 32 (0, 0)) ∧ wr.heap[w.heap.size]? = some (.cells zeroCells 32 (0, 0)) ∧ RStep w wr g)) (fun i _ => block - (intOf i).toNat)
  case atStart => exact Lib.hid ⟨0, Nat.zero_le _, rfl, by have h := HO3.out; unfold OwnI at h; rw [HXL.out] at h; simpa using h, HBS3.out, HBL3.out, HS3.out⟩
  case round =>
    obtain ⟨j, hj, rfl, hown, hbs, hbl, hst⟩ := hrel.out
    clear hrel
    have HO := Lib.hid hown; have HBS := Lib.hid hbs; have HBL := Lib.hid hbl; have HST := Lib.hid hst
    clear hown hbs hbl hst
    by_cases hlt : j < block
    · obtain ⟨gx, cap, hv, hgb, hgl⟩ := HO.out.form (by omega)
      injection hv with hv1 _ hv2
      subst hv1; subst hv2
      obtain ⟨hcell, hfz, hunused, hstp⟩ := own_step HO.out HXL.out (by rw [HYL.out]; exact Nat.le_refl _) (by rw [HYL.out]; exact hlt)
      clear hunused
      obtain ⟨x, hx⟩ : ∃ x, XS.getD j 0 = x := ⟨_, rfl⟩
      have hxm : x ∈ XS := by rw [← hx]; exact getD_mem XS j (by rw [HXL.out]; exact hlt)
      have hxb := HXB.out x hxm
      have hxk := HXK.out x hxm
      have hy : YS.getD j 0 = x * p2 kw := by
        rw [← HYS.out, ← hx]
        have hjl : j < XS.length := by rw [HXL.out]; exact hlt
        simp [List.getD_eq_getElem?_getD, List.getElem?_map, List.getElem?_eq_getElem hjl]
      rw [hx] at hcell
      rw [hy] at hstp
      have c1 : wr.cell? ⟨w1.heap.size, 1, none⟩ = some (.int .i64 kw) := blk_cell HBS.out 1
      have HSTP := Lib.hid hstp
      clear hstp hx hy hxm
      have hkw0 : (0 : Int) ≤ (kw : Int) := by omega
      go_wp2_with fail
      go_still_tail 8, (by kernel_rfl)
      have hwz : wrap64 (x * 2 ^ kw) = x * p2 kw := by
        have e : (x * 2 ^ kw) = x * p2 kw := by rw [p2_eq]
        rw [e]; unfold wrap64; omega
      have HWZ := Lib.hid hwz
      clear hwz
      go_wp2_with fail
      go_roundw
      case rel =>
        rw [HWZ.out]
        have hgs : w1.heap.size ≠ gx := by omega
        have hgl2 : w.heap.size ≠ gx := by omega
        exact Lib.hid ⟨j + 1, by omega, by go_num, pw_own_below HSTP.out (bd1 _), blk_below (blk_far HBS.out (p := ⟨gx, j, none⟩) hgs _) (bd1 _), blk_below (blk_far HBL.out (p := ⟨gx, j, none⟩) hgl2 _) (bd1 _), (HST.out.set_new (by omega) j _).trans (RStep.of_below (bd1 _) g)⟩
      case measure => simp [intOf]; omega
    · obtain rfl : j = block := by omega
      have hO := HO.out
      rw [List.take_of_length_le (by rw [HYL.out]; exact Nat.le_refl _), List.drop_of_length_le (by rw [HXL.out]; exact Nat.le_refl _), List.append_nil] at hO
      have HOY := Lib.hid hO
      clear hO
      have hBD : wr.drew.heap[w1.heap.size]? = some (.cells (verbCells kw) 32 (0, 0)) := blk_below HBS.out (bd1 wr)
      have hLD : wr.drew.heap[w.heap.size]? = some (.cells zeroCells 32 (0, 0)) := blk_below HBL.out (bd1 wr)
      have c0 := blk_cell HBS.out 0
      have f0 := blk_frozen HBL.out 0
      have d0 := blk_cell hBD 0
      have g0 := blk_frozen hLD 0
      have k0 := blk_cell HBL.out 0
      have l0 := blk_cell hLD 0
      have c1 := blk_cell HBS.out 1
      have f1 := blk_frozen HBL.out 1
      have d1 := blk_cell hBD 1
      have g1 := blk_frozen hLD 1
      have k1 := blk_cell HBL.out 1
      have l1 := blk_cell hLD 1
      have c2 := blk_cell HBS.out 2
      have f2 := blk_frozen HBL.out 2
      have d2 := blk_cell hBD 2
      have g2 := blk_frozen hLD 2
      have k2 := blk_cell HBL.out 2
      have l2 := blk_cell hLD 2
      have c3 := blk_cell HBS.out 3
      have f3 := blk_frozen HBL.out 3
      have d3 := blk_cell hBD 3
      have g3 := blk_frozen hLD 3
      have k3 := blk_cell HBL.out 3
      have l3 := blk_cell hLD 3
      have c4 := blk_cell HBS.out 4
      have f4 := blk_frozen HBL.out 4
      have d4 := blk_cell hBD 4
      have g4 := blk_frozen hLD 4
      have k4 := blk_cell HBL.out 4
      have l4 := blk_cell hLD 4
      have c5 := blk_cell HBS.out 5
      have f5 := blk_frozen HBL.out 5
      have d5 := blk_cell hBD 5
      have g5 := blk_frozen hLD 5
      have k5 := blk_cell HBL.out 5
      have l5 := blk_cell hLD 5
      have c6 := blk_cell HBS.out 6
      have f6 := blk_frozen HBL.out 6
      have d6 := blk_cell hBD 6
      have g6 := blk_frozen hLD 6
      have k6 := blk_cell HBL.out 6
      have l6 := blk_cell hLD 6
      have c7 := blk_cell HBS.out 7
      have f7 := blk_frozen HBL.out 7
      have d7 := blk_cell hBD 7
      have g7 := blk_frozen hLD 7
      have k7 := blk_cell HBL.out 7
      have l7 := blk_cell hLD 7
      have c8 := blk_cell HBS.out 8
      have f8 := blk_frozen HBL.out 8
      have d8 := blk_cell hBD 8
      have g8 := blk_frozen hLD 8
      have k8 := blk_cell HBL.out 8
      have l8 := blk_cell hLD 8
      have HBD := Lib.hid hBD; have HLD := Lib.hid hLD
      clear hBD hLD
      simp only [List.getElem?_toArray, List.getElem?_cons_zero, List.getElem?_cons_succ] at c0 d0 k0 l0 c1 d1 k1 l1 c2 d2 k2 l2 c3 d3 k3 l3 c4 d4 k4 l4 c5 d5 k5 l5 c6 d6 k6 l6 c7 d7 k7 l7 c8 d8 k8 l8
      go_wp2_with fail
      go_region
      all_goals
        go_wp2
        have o0 := HOY.out
        have b0 := HBL.out
        have s0 := HST.out
        have o1 := own_setCell (p := ⟨w.heap.size, 0, none⟩) o0 (own_ne o0 b0 (by decide)) (.int .i64 1)
        have b1 := blk_set b0 0 (.int .i64 1)
        have s1 := s0.set_new (Nat.le_refl _) 0 (.int .i64 1)
        have o2 := own_setCell (p := ⟨w.heap.size, 1, none⟩) o1 (own_ne o1 b1 (by decide)) (.int .i64 kw)
        have b2 := blk_set b1 1 (.int .i64 kw)
        have s2 := s1.set_new (Nat.le_refl _) 1 (.int .i64 kw)
        have o3 := own_setCell (p := ⟨w.heap.size, 2, none⟩) o2 (own_ne o2 b2 (by decide)) (.int .i64 0)
        have b3 := blk_set b2 2 (.int .i64 0)
        have s3 := s2.set_new (Nat.le_refl _) 2 (.int .i64 0)
        have o4 := own_setCell (p := ⟨w.heap.size, 3, none⟩) o3 (own_ne o3 b3 (by decide)) (.int .i64 0)
        have b4 := blk_set b3 3 (.int .i64 0)
        have s4 := s3.set_new (Nat.le_refl _) 3 (.int .i64 0)
        have o5 := own_setCell (p := ⟨w.heap.size, 4, none⟩) o4 (own_ne o4 b4 (by decide)) (.int .i64 0)
        have b5 := blk_set b4 4 (.int .i64 0)
        have s5 := s4.set_new (Nat.le_refl _) 4 (.int .i64 0)
        have o6 := own_setCell (p := ⟨w.heap.size, 5, none⟩) o5 (own_ne o5 b5 (by decide)) (.slice none 0 0)
        have b6 := blk_set b5 5 (.slice none 0 0)
        have s6 := s5.set_new (Nat.le_refl _) 5 (.slice none 0 0)
        have o7 := own_setCell (p := ⟨w.heap.size, 6, none⟩) o6 (own_ne o6 b6 (by decide)) (.bool false)
        have b7 := blk_set b6 6 (.bool false)
        have s7 := s6.set_new (Nat.le_refl _) 6 (.bool false)
        have o8 := own_setCell (p := ⟨w.heap.size, 7, none⟩) o7 (own_ne o7 b7 (by decide)) (.int .i64 0)
        have b8 := blk_set b7 7 (.int .i64 0)
        have s8 := s7.set_new (Nat.le_refl _) 7 (.int .i64 0)
        have o9 := own_setCell (p := ⟨w.heap.size, 8, none⟩) o8 (own_ne o8 b8 (by decide)) (.slice none 0 0)
        have b9 := blk_set b8 8 (.slice none 0 0)
        have s9 := s8.set_new (Nat.le_refl _) 8 (.slice none 0 0)
        have bz := blk_below b9 (bd1 _)
        have z0 := blk_cell bz 0
        have z1 := blk_cell bz 1
        have z2 := blk_cell bz 2
        have z3 := blk_cell bz 3
        have z4 := blk_cell bz 4
        have z5 := blk_cell bz 5
        have z6 := blk_cell bz 6
        have z7 := blk_cell bz 7
        have z8 := blk_cell bz 8
        refine bodyPost_ret (v := .tuple #[.slice A3 j cx, .agg (verbCells kw), .int .i64 0]) (by simp [results, Try.results47, go_sem, k0, k1, k2, k3, k4, k5, k6, k7, k8]) rfl ?_
        refine ⟨.slice A3 j cx, rfl, ?_, s9.trans (RStep.of_below (bd1 _) g)⟩
        unfold OwnI; rw [HXS.out, HYS.out, HYL.out]; exact own_weaken (pw_own_below o9 (bd1 _)) (by omega)
end Go.Proofs.Ytdpgojcljlfnbaa
