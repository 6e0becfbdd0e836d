/- The walk of SubframeLinear. -/
import Derived.Test.YtdpgojcljlfnbaaLinMath
set_option linter.unusedVariables false
set_option linter.unusedSimpArgs false
set_option maxRecDepth 100000
namespace Go.Proofs.Ytdpgojcljlfnbaa
open Go.RowKit
open Go.Proofs.YtdpgojcljlfnbaaW.PrintWords

theorem linX_snoc (ls : List Int) (j : Nat) (h : j < ls.length) : linX (ls.take (j + 1)) = linX (ls.take j) ++ [(ls.getD j 0).tmod 8388608] := by
  unfold linX
  rw [take_snoc_getD ls j h, List.map_append]; rfl

set_option maxHeartbeats 2000000 in
theorem Linear_walk (A : Option Addr) (n c : Nat) (ls : List Int) (o : Int) (wide : Bool) (po : Int) (PA : Option Addr) (ps : List PartV) (pc : Nat) (w : World)
    (hr : ReadsInt w .i32 A n ls) (hl32 : ∀ x ∈ ls, -2147483648 ≤ x ∧ x ≤ 2147483647) (hp : ReadsC w PA (partCells ps)) (ho : 0 ≤ o ∧ o ≤ 255) (hps : ps.length ≤ 9223372036854775807) :
    Calls Try.prog 3 #[.slice A n c, .int .u8 o, .agg #[.bool wide, .int .i64 po, .slice PA ps.length pc]] w fun e w' => e = .returned (.bool true) ∧ Below w.heap.size w w' := by
  have HR := Lib.hid hr; have HP := Lib.hid hp
  have hl := hr.1
  have hm := hr.2.1
  have HL32 := Lib.hid hl32
  clear hr hp hl32
  subst hl
  obtain ⟨W0, hW0⟩ : ∃ W0, w.alloc (Obj.cells #[.bool wide, .int .i64 po, .slice PA ps.length pc] 25) = W0 := ⟨_, rfl⟩
  have h00 : W0.cell? ⟨w.heap.size, 0, none⟩ = some (.bool wide) := by rw [← hW0]; simp [go_sem]
  have h01 : W0.cell? ⟨w.heap.size, 1, none⟩ = some (.int .i64 po) := by rw [← hW0]; simp [go_sem]
  have h02 : W0.cell? ⟨w.heap.size, 2, none⟩ = some (.slice PA ps.length pc) := by rw [← hW0]; simp [go_sem]
  have hb0 : Below w.heap.size w W0 := by rw [← hW0]; exact ba _ _
  go_enter Try.func3, Try.ntmps3
  go_wp2_with fail
  refine (awake16_any W0).mono ?_
  rintro e w1 ⟨rfl, hb⟩
  have hb1 := bt hb0 hb
  have h10 : w1.cell? ⟨w.heap.size, 0, none⟩ = some (.bool wide) := pw_cell_below hb h00
  have h11 : w1.cell? ⟨w.heap.size, 1, none⟩ = some (.int .i64 po) := pw_cell_below hb h01
  have h12 : w1.cell? ⟨w.heap.size, 2, none⟩ = some (.slice PA ps.length pc) := pw_cell_below hb h02
  clear h00 h01 h02 hW0
  by_cases c40 : 40 < ls.length
  · go_wp2
    go_ret
    exact ⟨rfl, hb1⟩
  by_cases c60 : 60 < ps.length
  · go_wp2
    go_ret
    exact ⟨rfl, hb1⟩
  have hn40 : ls.length ≤ 40 := by omega
  have hn60 : ps.length ≤ 60 := by omega
  clear c40 c60
  obtain ⟨kj, hkk⟩ : ∃ kj : Nat, 1 + o % 4 = (kj : Int) + 1 := ⟨(o % 4).toNat, by omega⟩
  have hkj4 : kj < 4 := by omega
  go_wp2_with fail
  clear hkk
  have HN60 := Lib.hid hn60
  clear hn60
  go_loopw [9, 10] (fun v i wr => Hid (∃ j : Nat, j ≤ ls.length ∧ i = .int .i64 j ∧ wr.ownsRow w1.heap.size 3 1 v j (nums .i64 (linX (ls.take j))) ∧ Below w1.heap.size w1 wr)) (fun _ i _ => ls.length - (intOf i).toNat)
  case atStart => exact Lib.hid ⟨0, Nat.zero_le _, rfl, own_nil _ _ _ _, Below.refl _ _⟩
  case round =>
    obtain ⟨j, hj, rfl, hown, hbr⟩ := hrel.out
    clear hrel
    have HO := Lib.hid hown
    clear hown
    by_cases hlt : j < ls.length
    · obtain ⟨ax, rfl, hc⟩ := rd_nat ((HR.out.below hb1).below hbr) hlt
      have hsn := linX_snoc ls j hlt
      have hxb := HL32.out _ (getD_mem ls j hlt)
      obtain ⟨x, hx⟩ : ∃ x, ls.getD j 0 = x := ⟨_, rfl⟩
      rw [hx] at hc hsn hxb
      have HSN := Lib.hid hsn
      have hjl : (linX (ls.take j)).length = j := by unfold linX; rw [List.length_map, List.length_take]; omega
      have HJL := Lib.hid hjl
      have hwx : wrap64 x = x := by unfold wrap64; omega
      clear hx hsn hjl h10 h11 h12
      go_wp2_with (at_builtin; refine print_append_num (w0 := w1) w1.heap.size rfl (.tmp 39) (.tmp 46) 27 3 .i64 8 rfl Try.underlying27 info_int (by decide) u9 (linX (ls.take j)) (x.tmod 8388608) rfl rfl (by rw [HJL.out]; exact HO.out) hbr hbr.size (by rw [HJL.out]; omega) ?_; rintro v1 w6 hown6 hb6 hg6 hat6)
      go_roundw
      case rel =>
        refine Lib.hid ⟨j + 1, by omega, by go_num, ?_, hb6⟩
        have e2 : (linX (ls.take j) ++ [x.tmod 8388608]).length = j + 1 := by rw [List.length_append, HJL.out]; rfl
        rw [HSN.out, ← e2]; exact hown6
      case measure => simp [intOf]; omega
    · obtain rfl : j = ls.length := by omega
      have hO := HO.out
      rw [List.take_length] at hO
      obtain ⟨A2, c2, rfl, hrc2⟩ := own_reads hO
      have hcap2 := own_cap hO
      have HRC2 := Lib.hid hrc2
      have hlx : (linX ls).length = ls.length := by unfold linX; rw [List.length_map]
      have HLX := Lib.hid hlx
      have w10 : wr.cell? ⟨w.heap.size, 0, none⟩ = some (.bool wide) := pw_cell_below hbr h10
      have w11 : wr.cell? ⟨w.heap.size, 1, none⟩ = some (.int .i64 po) := pw_cell_below hbr h11
      have w12 : wr.cell? ⟨w.heap.size, 2, none⟩ = some (.slice PA ps.length pc) := pw_cell_below hbr h12
      have hbr1 := bt hb1 hbr
      clear hO hrc2 hlx h10 h11 h12 HO
      obtain ⟨W5, hW5⟩ : ∃ W5, (((((wr.alloc (Obj.cells #[Value.int IntKind.i64 1] 3)).alloc (Obj.cells #[Value.int IntKind.i64 2, Value.int IntKind.i64 (-1)] 3)).alloc (Obj.cells #[Value.int IntKind.i64 3, Value.int IntKind.i64 (-3), Value.int IntKind.i64 1] 3)).alloc
            (Obj.cells #[Value.int IntKind.i64 4, Value.int IntKind.i64 (-6), Value.int IntKind.i64 4, Value.int IntKind.i64 (-1)] 3)).alloc
        (Obj.cells #[Value.slice (some { block := wr.heap.size, off := 0 }) 1 1, Value.slice (some { block := wr.heap.size + 1, off := 0 }) 2 2, Value.slice (some { block := wr.heap.size + 1 + 1, off := 0 }) 3 3,
            Value.slice (some { block := wr.heap.size + 1 + 1 + 1, off := 0 }) 4 4] 27)) = W5 := ⟨_, rfl⟩
      have hb5 : Below wr.heap.size wr W5 := by rw [← hW5]; exact bt (bt (bt (bt (ba _ _) (ba _ _)) (ba _ _)) (ba _ _)) (ba _ _)
      have hkw : IntKind.i64.wrap (kj : Int) = (kj : Int) := IntWalk.i64_in _ (by omega)
      have hkw2 : (kj : Int) + 1 - 1 = (kj : Int) := by omega
      obtain ⟨FA, hfc, hfr⟩ : ∃ FA, W5.cell? ⟨wr.heap.size + 1 + 1 + 1 + 1, kj, none⟩ = some (.slice (some FA) (facs kj).length (facs kj).length) ∧ ReadsInt W5 .i64 (some FA) (facs kj).length (facs kj) := by
        have hkc : kj = 0 ∨ kj = 1 ∨ kj = 2 ∨ kj = 3 := by omega
        clear hkw hkw2
        obtain ⟨V1, hV1⟩ : ∃ V, wr.alloc (Obj.cells #[Value.int IntKind.i64 1] 3) = V := ⟨_, rfl⟩
        have s1 : V1.heap.size = wr.heap.size + 1 := by rw [← hV1]; simp
        have r1 : ReadsInt V1 .i64 (some ⟨wr.heap.size, 0, none⟩) 1 [1] := by rw [← hV1]; exact own_rd (own_lit wr 0 3 .i64 [1] (Nat.zero_le _) (by simp)) rfl
        rw [hV1] at hW5
        obtain ⟨V2, hV2⟩ : ∃ V, V1.alloc (Obj.cells #[Value.int IntKind.i64 2, Value.int IntKind.i64 (-1)] 3) = V := ⟨_, rfl⟩
        have s2 : V2.heap.size = wr.heap.size + 1 + 1 := by rw [← hV2, ← s1]; simp
        have r2 : ReadsInt V2 .i64 (some ⟨wr.heap.size + 1, 0, none⟩) 2 [2, -1] := by rw [← hV2, ← s1]; exact own_rd (own_lit V1 0 3 .i64 [2, -1] (Nat.zero_le _) (by simp)) rfl
        have b2 : Below V1.heap.size V1 V2 := by rw [← hV2]; exact ba _ _
        rw [hV2] at hW5
        obtain ⟨V3, hV3⟩ : ∃ V, V2.alloc (Obj.cells #[Value.int IntKind.i64 3, Value.int IntKind.i64 (-3), Value.int IntKind.i64 1] 3) = V := ⟨_, rfl⟩
        have s3 : V3.heap.size = wr.heap.size + 1 + 1 + 1 := by rw [← hV3, ← s2]; simp
        have r3 : ReadsInt V3 .i64 (some ⟨wr.heap.size + 1 + 1, 0, none⟩) 3 [3, -3, 1] := by rw [← hV3, ← s2]; exact own_rd (own_lit V2 0 3 .i64 [3, -3, 1] (Nat.zero_le _) (by simp)) rfl
        have b3 : Below V2.heap.size V2 V3 := by rw [← hV3]; exact ba _ _
        rw [hV3] at hW5
        obtain ⟨V4, hV4⟩ : ∃ V, V3.alloc (Obj.cells #[Value.int IntKind.i64 4, Value.int IntKind.i64 (-6), Value.int IntKind.i64 4, Value.int IntKind.i64 (-1)] 3) = V := ⟨_, rfl⟩
        have s4 : V4.heap.size = wr.heap.size + 1 + 1 + 1 + 1 := by rw [← hV4, ← s3]; simp
        have r4 : ReadsInt V4 .i64 (some ⟨wr.heap.size + 1 + 1 + 1, 0, none⟩) 4 [4, -6, 4, -1] := by rw [← hV4, ← s3]; exact own_rd (own_lit V3 0 3 .i64 [4, -6, 4, -1] (Nat.zero_le _) (by simp)) rfl
        have b4 : Below V3.heap.size V3 V4 := by rw [← hV4]; exact ba _ _
        rw [hV4] at hW5
        have b5 : Below V4.heap.size V4 W5 := by rw [← hW5]; exact ba _ _
        have g5 := blk_new V4 (Obj.cells #[Value.slice (some { block := wr.heap.size, off := 0 }) 1 1, Value.slice (some { block := wr.heap.size + 1, off := 0 }) 2 2, Value.slice (some { block := wr.heap.size + 1 + 1, off := 0 }) 3 3,
            Value.slice (some { block := wr.heap.size + 1 + 1 + 1, off := 0 }) 4 4] 27)
        rw [hW5, s4] at g5
        rcases hkc with rfl | rfl | rfl | rfl
        · exact ⟨_, blk_cell g5 0, r1.below (bt b2 (bt b3 (bt b4 b5)))⟩
        · exact ⟨_, blk_cell g5 1, r2.below (bt b3 (bt b4 b5))⟩
        · exact ⟨_, blk_cell g5 2, r3.below (bt b4 b5)⟩
        · exact ⟨_, blk_cell g5 3, r4.below b5⟩
      obtain ⟨W6, hW6⟩ : ∃ W6, W5.alloc (Obj.cells #[Value.int IntKind.i64 2, Value.int IntKind.i64 0, Value.int IntKind.i64 ((kj : Int) + 1), Value.int IntKind.i64 0, Value.int IntKind.i64 0, Value.slice none 0 0, Value.bool wide, Value.int IntKind.i64 po, Value.slice PA ps.length pc] 32) = W6 := ⟨_, rfl⟩
      have hb6 : Below W5.heap.size W5 W6 := by rw [← hW6]; exact ba _ _
      have hblk6 : W6.heap[W5.heap.size]? = some (.cells #[Value.int IntKind.i64 2, Value.int IntKind.i64 0, Value.int IntKind.i64 ((kj : Int) + 1), Value.int IntKind.i64 0, Value.int IntKind.i64 0, Value.slice none 0 0, Value.bool wide, Value.int IntKind.i64 po, Value.slice PA ps.length pc] 32 (0, 0)) := by rw [← hW6]; simpa using heap_alloc_new W5 _
      have HB6 := Lib.hid hblk6
      have v10 : W5.cell? ⟨w.heap.size, 0, none⟩ = some (.bool wide) := pw_cell_below hb5 w10
      have v11 : W5.cell? ⟨w.heap.size, 1, none⟩ = some (.int .i64 po) := pw_cell_below hb5 w11
      have v12 : W5.cell? ⟨w.heap.size, 2, none⟩ = some (.slice PA ps.length pc) := pw_cell_below hb5 w12
      have u10 : W6.cell? ⟨w.heap.size, 0, none⟩ = some (.bool wide) := pw_cell_below hb6 v10
      have u11 : W6.cell? ⟨w.heap.size, 1, none⟩ = some (.int .i64 po) := pw_cell_below hb6 v11
      have u12 : W6.cell? ⟨w.heap.size, 2, none⟩ = some (.slice PA ps.length pc) := pw_cell_below hb6 v12
      have hfc6 : W6.cell? ⟨wr.heap.size + 1 + 1 + 1 + 1, kj, none⟩ = some (.slice (some FA) (facs kj).length (facs kj).length) := pw_cell_below hb6 hfc
      have HFR := Lib.hid hfr
      have HFL : Hid ((facs kj).length = kj + 1) := Lib.hid (facs_len hkj4)
      clear w10 w11 w12 hfr hfc hblk6
      go_wp2_with fail
      have hkj5 : (kj : Int) < 4 := by omega
      have t10 : W6.drew.cell? ⟨w.heap.size, 0, none⟩ = some (.bool wide) := pw_cell_below (bd1 _) u10
      have t11 : W6.drew.cell? ⟨w.heap.size, 1, none⟩ = some (.int .i64 po) := pw_cell_below (bd1 _) u11
      have t12 : W6.drew.cell? ⟨w.heap.size, 2, none⟩ = some (.slice PA ps.length pc) := pw_cell_below (bd1 _) u12
      have tfc : W6.drew.cell? ⟨wr.heap.size + 1 + 1 + 1 + 1, kj, none⟩ = some (.slice (some FA) (facs kj).length (facs kj).length) := pw_cell_below (bd1 _) hfc6
      have x10 : ((W6.alloc (Obj.cells #[Value.int IntKind.i64 0, Value.int IntKind.i64 0, Value.int IntKind.i64 0, Value.int IntKind.i64 0, Value.int IntKind.i64 0, Value.slice none 0 0, Value.bool false, Value.int IntKind.i64 0, Value.slice none 0 0] 32)).drew).cell? ⟨w.heap.size, 0, none⟩ = some (.bool wide) := pw_cell_below (bt (ba _ _) (bd1 _)) u10
      have x11 : ((W6.alloc (Obj.cells #[Value.int IntKind.i64 0, Value.int IntKind.i64 0, Value.int IntKind.i64 0, Value.int IntKind.i64 0, Value.int IntKind.i64 0, Value.slice none 0 0, Value.bool false, Value.int IntKind.i64 0, Value.slice none 0 0] 32)).drew).cell? ⟨w.heap.size, 1, none⟩ = some (.int .i64 po) := pw_cell_below (bt (ba _ _) (bd1 _)) u11
      have x12 : ((W6.alloc (Obj.cells #[Value.int IntKind.i64 0, Value.int IntKind.i64 0, Value.int IntKind.i64 0, Value.int IntKind.i64 0, Value.int IntKind.i64 0, Value.slice none 0 0, Value.bool false, Value.int IntKind.i64 0, Value.slice none 0 0] 32)).drew).cell? ⟨w.heap.size, 2, none⟩ = some (.slice PA ps.length pc) := pw_cell_below (bt (ba _ _) (bd1 _)) u12
      have xfc : ((W6.alloc (Obj.cells #[Value.int IntKind.i64 0, Value.int IntKind.i64 0, Value.int IntKind.i64 0, Value.int IntKind.i64 0, Value.int IntKind.i64 0, Value.slice none 0 0, Value.bool false, Value.int IntKind.i64 0, Value.slice none 0 0] 32)).drew).cell? ⟨wr.heap.size + 1 + 1 + 1 + 1, kj, none⟩ = some (.slice (some FA) (facs kj).length (facs kj).length) := pw_cell_below (bt (ba _ _) (bd1 _)) hfc6
      clear v10 v11 v12 hW5 hW6 u10 u11 u12 hfc6
      have hbl := bt hbr1 (bt hb5 hb6)
      obtain ⟨n1, e1, hfx, hli⟩ := lin_law ls kj hkj4 HL32.out hn40 wide po PA ps pc (some FA)
      have HFX := Lib.hid hfx; have HLI := Lib.hid hli
      clear hfx hli
      go_region
      all_goals
        obtain ⟨W7, hW7⟩ : ∃ W7, (W6.alloc (Obj.cells #[Value.int IntKind.i64 3, Value.int IntKind.i64 0, Value.int IntKind.i64 0, Value.int IntKind.i64 0, Value.int IntKind.i64 5, Value.slice (some FA) (facs kj).length (facs kj).length, Value.bool wide, Value.int IntKind.i64 po, Value.slice PA ps.length pc] 32)).drew = W7 := ⟨_, rfl⟩
        rw [hW7]
        have hb7 : Below W6.heap.size W6 W7 := by rw [← hW7]; exact bt (ba _ _) (bd1 _)
        have hA := blk_below HB6.out hb7
        have hB : W7.heap[W6.heap.size]? = some (.cells #[Value.int IntKind.i64 3, Value.int IntKind.i64 0, Value.int IntKind.i64 0, Value.int IntKind.i64 0, Value.int IntKind.i64 5, Value.slice (some FA) (facs kj).length (facs kj).length, Value.bool wide, Value.int IntKind.i64 po, Value.slice PA ps.length pc] 32 (0, 0)) := by rw [← hW7]; exact blk_below (by simpa using heap_alloc_new W6 _) (bd1 _)
        clear hW7 t10 t11 t12 tfc x10 x11 x12 xfc hkw hkw2
        have a0 : W7.cell? ⟨W5.heap.size, 0, none⟩ = some (.int .i64 2) := blk_cell hA 0
        have a1 : W7.cell? ⟨W5.heap.size, 1, none⟩ = some (.int .i64 0) := blk_cell hA 1
        have a2 : W7.cell? ⟨W5.heap.size, 2, none⟩ = some (.int .i64 ((kj : Int) + 1)) := blk_cell hA 2
        have a3 : W7.cell? ⟨W5.heap.size, 3, none⟩ = some (.int .i64 0) := blk_cell hA 3
        have a4 : W7.cell? ⟨W5.heap.size, 4, none⟩ = some (.int .i64 0) := blk_cell hA 4
        have a5 : W7.cell? ⟨W5.heap.size, 5, none⟩ = some (.slice none 0 0) := blk_cell hA 5
        have a6 : W7.cell? ⟨W5.heap.size, 6, none⟩ = some (.bool wide) := blk_cell hA 6
        have a7 : W7.cell? ⟨W5.heap.size, 7, none⟩ = some (.int .i64 po) := blk_cell hA 7
        have a8 : W7.cell? ⟨W5.heap.size, 8, none⟩ = some (.slice PA ps.length pc) := blk_cell hA 8
        clear hA
        have hbl7 := bt hbl hb7
        go_wp2_with fail
        have hsA : SubR W7 (fixV kj wide po PA ps pc) := ⟨⟨rfl, Nat.zero_le _, fun h => absurd h (Nat.lt_irrefl 0)⟩, Nat.le_refl _, HP.out.below hbl7, Nat.le_trans HN60.out (by decide)⟩
        refine (Bits_any A2 ls.length c2 (linX ls) (fixV kj wide po PA ps pc) 24 W7 (HRC2.out.below (bt hb5 (bt hb6 hb7))) hsA hcap2).mono ?_
        rintro e w8 ⟨rfl, hb8⟩
        rw [HFX.out]
        have hB8 := blk_below hB hb8
        clear hB hsA a0 a1 a2 a3 a4 a5 a6 a7 a8
        have b0 : w8.cell? ⟨W6.heap.size, 0, none⟩ = some (.int .i64 3) := blk_cell hB8 0
        have b1 : w8.cell? ⟨W6.heap.size, 1, none⟩ = some (.int .i64 0) := blk_cell hB8 1
        have b2 : w8.cell? ⟨W6.heap.size, 2, none⟩ = some (.int .i64 0) := blk_cell hB8 2
        have b3 : w8.cell? ⟨W6.heap.size, 3, none⟩ = some (.int .i64 0) := blk_cell hB8 3
        have b4 : w8.cell? ⟨W6.heap.size, 4, none⟩ = some (.int .i64 5) := blk_cell hB8 4
        have b5 : w8.cell? ⟨W6.heap.size, 5, none⟩ = some (.slice (some FA) (facs kj).length (facs kj).length) := blk_cell hB8 5
        have b6 : w8.cell? ⟨W6.heap.size, 6, none⟩ = some (.bool wide) := blk_cell hB8 6
        have b7 : w8.cell? ⟨W6.heap.size, 7, none⟩ = some (.int .i64 po) := blk_cell hB8 7
        have b8 : w8.cell? ⟨W6.heap.size, 8, none⟩ = some (.slice PA ps.length pc) := blk_cell hB8 8
        clear hB8
        go_wp2_with fail
        have hsB : SubR w8 (linV kj (some FA) wide po PA ps pc) := ⟨HFR.out.below (bt hb6 (bt hb7 hb8)), Nat.le_refl _, HP.out.below (bt hbl7 hb8), Nat.le_trans HN60.out (by decide)⟩
        refine (Bits_any A2 ls.length c2 (linX ls) (linV kj (some FA) wide po PA ps pc) 24 w8 (HRC2.out.below (bt hb5 (bt hb6 (bt hb7 hb8)))) hsB hcap2).mono ?_
        rintro e w9 ⟨rfl, hb9⟩
        clear hsB b0 b1 b2 b3 b4 b5 b6 b7 b8
        have hb99 := bt hbl7 (bt hb8 hb9)
        clear hbl7 hb8 hb9 hbl hb7 hb6 hb5
        rcases HLI.out with ⟨he, hb2, h1, h2⟩ | ⟨he, hn, hb2⟩
        · rw [hb2]
          subst he
          clear hb2
          have f1 : IntKind.i64.wrap (n1 + 9) = n1 + 9 := IntWalk.i64_in _ (by omega)
          have f2 : IntKind.i64.wrap (5 * ((kj : Int) + 1)) = 5 * ((kj : Int) + 1) := IntWalk.i64_in _ (by omega)
          have f3 : IntKind.i64.wrap (n1 + 9 + 5 * ((kj : Int) + 1)) = n1 + 9 + 5 * ((kj : Int) + 1) := IntWalk.i64_in _ (by omega)
          dsimp only
          go_wp2
          go_ret
          exact ⟨rfl, hb99⟩
        · rw [hb2]
          subst hn
          have heb : (e1 == 0) = false := by rw [beq_eq_false_iff_ne]; exact he
          have heb2 : (e1 != 0) = true := by rw [bne_iff_ne]; exact he
          clear hb2 he
          dsimp only
          go_wp2
          go_ret
          exact ⟨rfl, hb99⟩
end Go.Proofs.Ytdpgojcljlfnbaa
