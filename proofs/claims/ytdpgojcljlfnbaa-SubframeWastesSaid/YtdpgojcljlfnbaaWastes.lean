/- The walk of SubframeWastes. -/
import Derived.Test.YtdpgojcljlfnbaaTake
import Derived.Test.YtdpgojcljlfnbaaWasMath
import Derived.Test.YtdpgojcljlfnbaaAwake16
import Derived.Test.YtdpgojcljlfnbaaStep
import Derived.Deep.DeepMust
set_option linter.unusedVariables false
set_option linter.unusedSimpArgs false
set_option maxRecDepth 100000
namespace Go.Proofs.Ytdpgojcljlfnbaa
open Go.RowKit
open Go.Proofs.YtdpgojcljlfnbaaW.PrintWords

theorem wasX_snoc (ls : List Int) (m k j : Nat) (h : j < ls.length) : wasX (ls.take (j + 1)) m k = wasX (ls.take j) m k ++ [(ls.getD j 0).tmod (p2 m) * p2 k] := by
  unfold wasX
  rw [take_snoc_getD ls j h, List.map_append]; rfl

theorem wasS_r (w : World) (k : Nat) : SubR w (wasS k) := ⟨⟨rfl, Nat.zero_le _, fun h => absurd h (Nat.lt_irrefl 0)⟩, Nat.le_refl _, fun h => absurd rfl h, Nat.zero_le _⟩
set_option maxHeartbeats 2000000 in
theorem Wastes_walk (A : Option Addr) (n c : Nat) (ls : List Int) (d8 k8 : Int) (w : World)
    (hr : ReadsInt w .i64 A n ls) (hl64 : ∀ x ∈ ls, -9223372036854775808 ≤ x ∧ x ≤ 9223372036854775807) (hd8 : 0 ≤ d8 ∧ d8 ≤ 255) (hk8 : 0 ≤ k8 ∧ k8 ≤ 255) :
    Calls Try.prog 11 #[.slice A n c, .int .u8 d8, .int .u8 k8] w fun e w' => e = .returned (.bool true) ∧ Below w.heap.size w w' := by
  have HR := Lib.hid hr
  have hl := hr.1
  have hm := hr.2.1
  have HL64 := Lib.hid hl64
  clear hr hl64
  subst hl
  go_enter Try.func11, Try.ntmps11
  go_wp2_with fail
  refine (awake16_any w).mono ?_
  rintro e w1 ⟨rfl, hb1⟩
  by_cases c0 : ls.length = 0
  · have hz : ((ls.length : Int) == 0) = true := by rw [c0]; rfl
    go_wp2
    go_ret
    exact ⟨rfl, hb1⟩
  have hz : ((ls.length : Int) == 0) = false := by rw [beq_eq_false_iff_ne]; omega
  by_cases c40 : 40 < ls.length
  · go_wp2
    go_ret
    exact ⟨rfl, hb1⟩
  have hn40 : ls.length ≤ 40 := by omega
  have hn0 : 1 ≤ ls.length := by omega
  clear c40 c0
  obtain ⟨dN, hdd⟩ : ∃ dN : Nat, 4 + d8 % 30 = (dN : Int) := ⟨(4 + d8 % 30).toNat, by omega⟩
  have hd4 : 4 ≤ dN := by omega
  have hd33 : dN ≤ 33 := by omega
  obtain ⟨kN, hkk⟩ : ∃ kN : Nat, k8 % ((dN : Int) - 1) = (kN : Int) := ⟨(k8 % ((dN : Int) - 1)).toNat, by have := Int.emod_nonneg k8 (show (dN : Int) - 1 ≠ 0 by omega); omega⟩
  have hkd : (kN : Int) < (dN : Int) - 1 := by rw [← hkk]; exact Int.emod_lt_of_pos _ (by omega)
  obtain ⟨m, hmm⟩ : ∃ m : Nat, dN = m + kN + 1 := ⟨dN - kN - 1, by omega⟩
  have hm1 : 1 ≤ m := by omega
  have hmi : (dN : Int) - 1 - (kN : Int) = (m : Int) := by omega
  have HMM := Lib.hid hmm
  clear hmm
  go_wp2_with fail
  rw [hkk]
  clear hdd hkk
  have hpm := p2_pos m
  have hpk := p2_pos kN
  have hpm2 : p2 m ≤ 4294967296 := by have := p2_mono (show m ≤ 32 by omega); exact this
  have hpk2 : p2 kN ≤ 4294967296 := by have := p2_mono (show kN ≤ 32 by omega); exact this
  have hpw : ∀ a : Int, -(p2 m) < a → a < p2 m → -8589934592 ≤ a * p2 kN ∧ a * p2 kN ≤ 8589934592 := by
    intro a h1 h2
    have e1 : p2 m * p2 kN ≤ 8589934592 := by rw [← p2_add]; have := p2_mono (show m + kN ≤ 33 by omega); exact this
    have h3 := Int.mul_le_mul_of_nonneg_right (Int.le_of_lt h1) (Int.le_of_lt hpk)
    have h4 := Int.mul_le_mul_of_nonneg_right (Int.le_of_lt h2) (Int.le_of_lt hpk)
    rw [Int.neg_mul] at h3
    omega
  have HPW := Lib.hid hpw
  clear hpw
  go_loopw [10, 11] (fun v i wr => Hid (∃ j : Nat, j ≤ ls.length ∧ i = .int .i64 j ∧ wr.ownsRow w1.heap.size 3 1 v j (nums .i64 (wasX (ls.take j) m kN)) ∧ Below w1.heap.size w1 wr)) (fun _ i _ => ls.length - (intOf i).toNat)
  case atStart => exact Lib.hid ⟨0, Nat.zero_le _, rfl, own_nil _ _ _ _, Below.refl _ _⟩
  case round =>
    obtain ⟨j, hj, rfl, hown, hbr⟩ := hrel.out
    clear hrel
    have HO := Lib.hid hown
    clear hown
    by_cases hlt : j < ls.length
    · obtain ⟨ax, rfl, hc⟩ := rd_nat ((HR.out.below hb1).below hbr) hlt
      have hsn := wasX_snoc ls m kN j hlt
      have hxb := HL64.out _ (getD_mem ls j hlt)
      obtain ⟨x, hx⟩ : ∃ x, ls.getD j 0 = x := ⟨_, rfl⟩
      rw [hx] at hc hsn hxb
      have HSN := Lib.hid hsn
      have hjl : (wasX (ls.take j) m kN).length = j := by unfold wasX; rw [List.length_map, List.length_take]; omega
      have HJL := Lib.hid hjl
      clear hx hsn hjl
      have hm0 : (0 : Int) ≤ (m : Int) := by omega
      have hk0 : (0 : Int) ≤ (kN : Int) := by omega
      go_wp2_with fail
      have hsh : IntKind.i64.wrap (2 ^ m) = p2 m := by rw [p2_eq, IntWalk.i64_in _ (by omega)]
      have hsk : IntKind.i64.wrap (2 ^ kN) = p2 kN := by rw [p2_eq, IntWalk.i64_in _ (by omega)]
      have hpn : p2 m ≠ 0 := by omega
      have hw1 : IntKind.i64.wrap ((dN : Int) - 1) = (dN : Int) - 1 := IntWalk.i64_in _ (by omega)
      have hw2 : IntKind.i64.wrap ((dN : Int) - 1 - (kN : Int)) = (m : Int) := by rw [IntWalk.i64_in _ (by omega)]; omega
      have hw6 : IntKind.i64.wrap (m : Int) = (m : Int) := IntWalk.i64_in _ (by omega)
      have hw7 : IntKind.i64.wrap (kN : Int) = (kN : Int) := IntWalk.i64_in _ (by omega)
      have hw3 : IntKind.i64.wrap x = x := IntWalk.i64_in _ (by omega)
      have htb := tmod_bd x m
      have hw4 : IntKind.i64.wrap (x.tmod (p2 m)) = x.tmod (p2 m) := IntWalk.i64_in _ (by omega)
      have hw5 : IntKind.i64.wrap (x.tmod (p2 m) * p2 kN) = x.tmod (p2 m) * p2 kN := IntWalk.i64_in _ (by have := HPW.out _ htb.1 htb.2; omega)
      clear htb
      go_region_law (refine step_append_drew (W := wr) (w0 := w1) w1.heap.size rfl (.tmp 46) (.tmp 60) 27 3 (.int .i64 0) 1 8 rfl Try.underlying27 info_int rfl (by decide) (by decide) u10 j (nums .i64 (wasX (ls.take j) m kN)) [.int .i64 (x.tmod (p2 m) * p2 kN)] (by simp [Act.eval, Act.put]) (by simp [Act.eval, Act.put]) rfl (by intro u hu; rw [List.mem_singleton] at hu; subst hu; rfl) HO.out hbr hbr.size (by omega) ?_; intro v1 w6 hown6 hb6 hg6 hat6)
      clear hw1 hw2 hw3 hw4 hw5 hw6 hw7 hsh hsk hpn
      go_wp2
      go_roundw
      case rel =>
        refine Lib.hid ⟨j + 1, by omega, by go_num, ?_, hb6⟩
        rw [HSN.out, nums_append]
        exact hown6
      case measure => simp [intOf]; omega
    · obtain rfl : j = ls.length := by omega
      have hO := HO.out
      rw [List.take_length] at hO
      obtain ⟨A2, c2, rfl, hrc2⟩ := own_reads hO
      have hcap2 := own_cap hO
      have hXL : (wasX ls m kN).length = ls.length := by unfold wasX; rw [List.length_map]
      have HXL := Lib.hid hXL; have HRC2 := Lib.hid hrc2; have HO2 := Lib.hid hO
      clear hO hrc2 hXL
      have hq : ∃ q : Nat, ((dN : Int) - (kN : Int)) * (ls.length : Int) = (q : Int) ∧ q ≤ 1320 := by
        refine ⟨(m + 1) * ls.length, ?_, ?_⟩
        · rw [show (dN : Int) - (kN : Int) = ((m + 1 : Nat) : Int) from by omega, Int.natCast_mul]
        · have h1 : m + 1 ≤ 33 := by omega
          exact Nat.mul_le_mul h1 hn40
      obtain ⟨q, hq, hq2⟩ := hq
      have HBI := Lib.hid (was_bits ls dN m kN HMM.out hm1 hd4 hd33 hn0 (by omega))
      have HPU := Lib.hid (was_put ls dN m kN HMM.out hd33)
      go_wp2_with fail
      obtain ⟨W3, hW3⟩ : ∃ W3, wr.alloc (Obj.cells (verbCells kN) 32) = W3 := ⟨_, rfl⟩
      have hW3b : wr.alloc (Obj.cells #[.int .i64 1, .int .i64 kN, .int .i64 0, .int .i64 0, .int .i64 0, .slice none 0 0, .bool false, .int .i64 0, .slice none 0 0] 32) = W3 := hW3
      have hb3 : Below wr.heap.size wr W3 := by rw [← hW3]; exact ba _ _
      have hbl3 : W3.heap[wr.heap.size]? = some (.cells (verbCells kN) 32 (0, 0)) := by rw [← hW3]; exact heap_alloc_new wr _
      rw [hW3b]
      clear hW3 hW3b
      have HBL3 := Lib.hid hbl3
      have HO3 := Lib.hid (pw_own_below HO2.out hb3)
      have hbw3 : Below w.heap.size w W3 := bt hb1 (bt hbr hb3)
      clear hbl3
      refine (Bits_any A2 ls.length c2 (wasX ls m kN) (wasS kN) dN W3 (own_rd HO3.out rfl) (wasS_r _ _) hcap2).mono ?_
      rintro e w4 ⟨rfl, hb4⟩
      rw [HBI.out]
      dsimp only
      have HBL4 := Lib.hid (blk_below HBL3.out hb4)
      have HO4 := Lib.hid (pw_own_below HO3.out hb4)
      have hbw4 := bt hbw3 hb4
      go_wp2_with fail
      refine (New_any w4).mono ?_
      rintro e w5 ⟨rfl, hw5, hb5⟩
      have HW5 := Lib.hid hw5
      have HBL5 := Lib.hid (blk_below HBL4.out hb5)
      have HO5 := Lib.hid (pw_own_below HO4.out hb5)
      have hbw5 := bt hbw4 hb5
      have e0 := blk_cell HBL5.out 0
      have e1 := blk_cell HBL5.out 1
      have e2 := blk_cell HBL5.out 2
      have e3 := blk_cell HBL5.out 3
      have e4 := blk_cell HBL5.out 4
      have e5 := blk_cell HBL5.out 5
      have e6 := blk_cell HBL5.out 6
      have e7 := blk_cell HBL5.out 7
      have e8 := blk_cell HBL5.out 8
      simp only [List.getElem?_toArray, List.getElem?_cons_zero, List.getElem?_cons_succ] at e0 e1 e2 e3 e4 e5 e6 e7 e8
      clear hw5
      go_wp2_with fail
      clear e0 e1 e2 e3 e4 e5 e6 e7 e8 hq
      refine (Put01_any w4.heap.size w4.heap.size _ [] A2 ls.length c2 (wasX ls m kN) (wasS kN) dN w5 HW5.out (fun W v' hst => own_rd (hst.own_ HW5.out HO5.out (by decide) (by decide)) rfl) (wasS_r _ _) hcap2 (by decide) hb5.size (.inr rfl) (by rw [HBI.out])).mono ?_
      rintro e w6 ⟨rfl, v6, hw6, hs6⟩
      rw [HPU.out, List.nil_append] at hw6
      have HW6 := Lib.hid hw6
      have HO6 := Lib.hid (hs6.own_ HW5.out HO5.out (by decide) (by decide))
      have HBL6 := Lib.hid (hs6.blk HW5.out HBL5.out (by decide) (by decide))
      have hbw6 : Below w.heap.size w w6 := (hs6.below hb5 (Nat.le_refl _) (fun k hk => by cases hk)) |> fun h => bt hbw4 h
      clear hw6 hs6 HW5 HO5 HBL5 HBL4 HBL3 HO4 HO3 HO2 hb3 hb4
      obtain ⟨bs, hbs⟩ : ∃ bs, digits 1 7 ++ wasteBits kN ++ allBits (m + 1) (wasY ls m) = bs := ⟨_, rfl⟩
      rw [hbs] at HW6
      have HBS := Lib.hid hbs
      have hbl : bs.length = 8 + kN + (m + 1) * ls.length := by
        rw [← hbs, List.length_append, List.length_append, digits_length, wasteBits_length, allBits_length]
        have : (wasY ls m).length = ls.length := by simp [wasY]
        rw [this]; omega
      have hbl2 : bs.length ≤ 2000 := by
        rw [hbl]
        have h1 : (m + 1) * ls.length ≤ 33 * 40 := Nat.mul_le_mul (by omega) hn40
        omega
      have HBLEN := Lib.hid hbl
      clear hbs hbl
      go_wp2_with fail
      refine (Bytes_any w4.heap.size w4.heap.size v6 bs w6 HW6.out (by omega)).mono ?_
      rintro e w7 ⟨v7, rfl, hown7, hb7⟩
      obtain ⟨A7, c7, rfl, hrc7⟩ := own_reads hown7
      have HR7 := Lib.hid hrc7
      have hyl : (toBytes bs).length ≤ 1099511627776 := by rw [toBytes_length]; omega
      clear hown7 hrc7
      go_wp2_with fail
      refine (Open_any A7 _ c7 (toBytes bs) w7 HR7.out hyl (toBytes_byte bs)).mono ?_
      rintro e w8 ⟨g8, v8, rfl, hg8, hr8, hb8⟩
      have HR8 := Lib.hid hr8
      have hb78 := bt hb7 hb8
      have hbw8 := bt hbw6 hb78
      have HO8 := Lib.hid (pw_own_below HO6.out hb78)
      have HBL8 := Lib.hid (blk_below HBL6.out hb78)
      have hbase8 : w7.heap.size ≤ w8.heap.size := hb8.size
      obtain ⟨r, hr⟩ := bits_bytes bs
      have hbits : bitsOf (toBytes bs) = digits 1 7 ++ wasteBits kN ++ (allBits (m + 1) (wasY ls m) ++ r) := by rw [hr, ← HBS.out]; simp
      have hrl : ((dN : Int) - kN).toNat * ls.length ≤ (allBits (m + 1) (wasY ls m) ++ r).length := by
        rw [List.length_append, allBits_length]
        have e1 : (wasY ls m).length = ls.length := by simp [wasY]
        have e2 : ((dN : Int) - kN).toNat = m + 1 := by omega
        rw [e1, e2]; omega
      have hback := was_back ls m kN hm1 (by omega) (bitsOf (toBytes bs)) r (by rw [hr, ← HBS.out])
      have e2 : ((dN : Int) - kN).toNat = m + 1 := by omega
      rw [← e2] at hback
      have HBACK := Lib.hid hback; have HBITS := Lib.hid hbits; have HRL := Lib.hid hrl
      clear hr8 hr hbits hrl hback e2 hyl
      go_wp2_with fail
      refine (TakeV_any w7.heap.size g8 v8 (toBytes bs) kN ls.length dN _ w8 HR8.out HBITS.out (by omega) (by omega) (by omega) hn0 (by omega) HRL.out hbase8).mono ?_
      rintro e w9 ⟨v9, rfl, hown9, hs9⟩
      rw [HBACK.out] at hown9
      have HO9 := Lib.hid hown9
      obtain ⟨A9, c9, rfl, hrc9⟩ := own_reads hown9
      have HR9 := Lib.hid hrc9
      have HX9 := Lib.hid (own_rd (hs9.own_ HR8.out.blk HO8.out (by decide)) rfl)
      have hbw9 : Below w.heap.size w w9 := hs9.below hbw8 (by have := hbw6.size; have := hb7.size; omega)
      clear hown9 hrc9 hs9
      go_wp2_with fail
      have hbl9 : (w9.alloc (Obj.cells (verbCells kN) 32)).heap[w9.heap.size]? = some (.cells (verbCells kN) 32 (0, 0)) := heap_alloc_new w9 _
      have hb10 : Below w9.heap.size w9 (w9.alloc (Obj.cells (verbCells kN) 32)) := ba _ _
      refine (Ints_any A2 ls.length c2 (wasX ls m kN) A9 _ c9 (wasX ls m kN) _ (HX9.out.below hb10) (HR9.out.below hb10)).mono ?_
      rintro e w10 ⟨rfl, hb11⟩
      have hdt : decide (wasX ls m kN = wasX ls m kN) = true := decide_eq_true rfl
      rw [hdt]
      have hbl10 := blk_below hbl9 hb11
      have e0 := blk_cell hbl10 0
      have e1 := blk_cell hbl10 1
      simp only [List.getElem?_toArray, List.getElem?_cons_zero, List.getElem?_cons_succ] at e0 e1
      have hbw11 := bt hbw9 (bt hb10 hb11)
      clear hbl9 hb10 hb11 hbl10 hdt
      go_wp2
      go_ret
      exact ⟨rfl, hbw11⟩
end Go.Proofs.Ytdpgojcljlfnbaa
