/- The contract of subframe.Put, of kinds without predictors. -/
import Derived.Test.YtdpgojcljlfnbaaWriter2
set_option linter.unusedVariables false
set_option linter.unusedSimpArgs false
set_option maxRecDepth 100000
namespace Go.Proofs.Ytdpgojcljlfnbaa
open Go.RowKit
open Go.Proofs.YtdpgojcljlfnbaaW.PrintWords

/-- What a subframe without a predictor is, as bits. -/
def putBits (xs : List Int) (s : SubV) (depth : Int) : List Bool :=
  digits s.kind.toNat 7 ++ wasteBits s.wasted.toNat ++ allBits (wid (depth - s.wasted)) (if s.kind = 0 then (downI xs s.wasted).take 1 else downI xs s.wasted)

theorem SubBox.of_blk {w : World} {g : Nat} {s : SubV} {t : TypeId} (h : w.heap[g]? = some (.cells (subCells s) t (0, 0))) : SubBox w g s :=
  ⟨blk_cell h 0, blk_cell h 1, blk_cell h 2, blk_cell h 3, blk_cell h 4, blk_cell h 5, blk_cell h 6, blk_cell h 7, blk_cell h 8⟩

theorem typed01_any (s : SubV) (w : World) (k2 : s.kind ≠ 2) (k3 : s.kind ≠ 3) : Calls Try.prog 74 #[subVal s] w fun e w' => e = .returned (.int .i64 (typedI s)) ∧ Below w.heap.size w w' := by
  have HV : Hid (typedI s = s.kind) := Lib.hid (by unfold typedI; rw [if_neg k2, if_neg k3])
  have k2b : (s.kind == 2) = false := by rw [beq_eq_false_iff_ne]; exact k2
  have k3b : (s.kind == 3) = false := by rw [beq_eq_false_iff_ne]; exact k3
  clear k2 k3
  go_enter Try.func74, Try.ntmps74
  go_wp2
  go_ret
  exact ⟨ret_int HV.out.symm, ba _ _⟩

theorem wasteBits_length (k : Nat) : (wasteBits k).length = k + 1 := by
  unfold wasteBits
  split
  · subst_vars; rfl
  · simp; omega

theorem own_rd {w : World} {base n m c : Nat} {e : TypeId} {k : IntKind} {A : Option Addr} {xs : List Int} (h : w.ownsRow base e 1 (.slice A n c) m (nums k xs)) (hl : m = n) : ReadsInt w k A n xs := by
  obtain ⟨A', c', hv, hr⟩ := own_reads h
  injection hv with h1 h2 h3
  subst h1; subst hl; exact hr

set_option maxHeartbeats 2000000 in
theorem Put01_any (base g : Nat) (v : Value) (bs : List Bool) (A : Option Addr) (n c : Nat) (xs : List Int) (s : SubV) (depth : Int) (w : World) (hW : IsW w base g v bs)
    (hr : ∀ W v', WStep w W g v v' → ReadsInt W .i64 A n xs) (hs : SubR w s) (hnc : n ≤ c) (hbs : bs.length ≤ 400000000000) (hbase : base ≤ w.heap.size)
    (hk : s.kind = 0 ∨ s.kind = 1) (hok : (bitsI xs s depth).2 = 0) :
    Calls Try.prog 44 #[.pointer (some ⟨g, 0, none⟩), .slice A n c, subVal s, .int .i64 depth] w fun e w' => e = .returned (.int .i64 0) ∧ ∃ v', IsW w' base g v' (bs ++ putBits xs s depth) ∧ WStep w w' g v v' := by
  have hod : oddI xs s depth = 0 := by
    apply Classical.byContradiction
    intro h
    unfold bitsI at hok
    rw [if_pos h] at hok
    exact h hok
  obtain ⟨z1, z2, z3, z4, z5, z6, z7, z8, z9⟩ := odd_zero hod
  have HX : Hid (∀ x ∈ xs, -1099511627776 ≤ x ∧ x ≤ 1099511627776) := Lib.hid fun x hx => in_near (z9 x hx).1 z4
  have hr0 := hr w v (WStep.refl _ _ _)
  have HL := Lib.hid hr0.1
  have HR0 := Lib.hid hr0
  have HW := Lib.hid hW; have HR := Lib.hid hr; have HS := Lib.hid hs; have HK := Lib.hid hk
  have hty : typedI s = s.kind := by unfold typedI; rw [if_neg (by omega), if_neg (by omega)]
  have HTY := Lib.hid hty
  have hrest : restI xs s = ([], 0) := by unfold restI; rw [if_pos hk]
  have HREST := Lib.hid hrest
  have horder : orderI s = 0 := by unfold orderI; rw [if_neg (by omega), if_neg (by omega)]
  have HORD := Lib.hid horder
  have hfl : s.fs.length ≤ 9223372036854775807 := hs.f.2.1
  rw [HL.out] at z1 z2
  obtain ⟨bv, hbv⟩ : ∃ bv, bitsI xs s depth = bv := ⟨_, rfl⟩
  have hok2 : bv.2 = 0 := by rw [← hbv]; exact hok
  have HBV := Lib.hid hbv
  obtain ⟨W0, hW0⟩ : ∃ W0, w.alloc (Obj.cells (subCells s) 32) = W0 := ⟨_, rfl⟩
  have hblk0 : W0.heap[w.heap.size]? = some (.cells (subCells s) 32 (0, 0)) := by rw [← hW0]; simpa using heap_alloc_new w _
  have hb0 : Below w.heap.size w W0 := by rw [← hW0]; exact ba _ _
  have HB0 := Lib.hid hblk0
  obtain ⟨b1, b2⟩ := bv
  dsimp only at hok2
  subst hok2
  have HBX := Lib.hid (SubBox.of_blk HB0.out)
  obtain ⟨h00, h01, h02, h03, h04, h05, h06, h07, h08⟩ := HBX.out
  clear hW hr hs hk hr0 z9 hod hok hty hrest horder hbv hblk0
  go_enter Try.func44, Try.ntmps44
  go_wp2_with fail
  refine (Bits_any A n c xs s depth W0 (HR0.out.below hb0) (HS.out.below hb0) hnc).mono ?_
  rintro e w1 ⟨rfl, hb⟩
  rw [HBV.out]
  have HBX1 := Lib.hid (HBX.out.below hb)
  have hb1 := bt hb0 hb
  clear h00 h01 h02 h03 h04 h05 h06 h07 h08 HBX hW0
  obtain ⟨h00, h01, h02, h03, h04, h05, h06, h07, h08⟩ := HBX1.out
  go_wp2_with fail
  refine (Rest_any A n c xs s w1 (HR0.out.below hb1) (HS.out.below hb1) (by omega) HX.out).mono ?_
  rintro e w2 ⟨v2, rfl, hown2, hb'⟩
  rw [HREST.out] at hown2 ⊢
  obtain ⟨A2, c2, rfl, hrc2⟩ := own_reads hown2
  have HBX2 := Lib.hid (HBX1.out.below hb')
  have hb2 := bt hb1 hb'
  clear h00 h01 h02 h03 h04 h05 h06 h07 h08 HBX1 hrc2 hown2
  obtain ⟨h00, h01, h02, h03, h04, h05, h06, h07, h08⟩ := HBX2.out
  dsimp only [List.length_nil]
  go_wp2_with fail
  have HBD := Lib.hid (bd1 w2)
  have hC2 := (HBX2.out.below HBD.out).conj
  have HC2 := Lib.hid hC2
  clear h00 h01 h02 h03 h04 h05 h06 h07 h08
  go_region_held3 (fun w' => w'.cell? ⟨w.heap.size, 0, none⟩ = some (.int .i64 s.kind) ∧ w'.cell? ⟨w.heap.size, 1, none⟩ = some (.int .i64 s.wasted) ∧ w'.cell? ⟨w.heap.size, 2, none⟩ = some (.int .i64 s.order) ∧ w'.cell? ⟨w.heap.size, 3, none⟩ = some (.int .i64 s.shift) ∧ w'.cell? ⟨w.heap.size, 4, none⟩ = some (.int .i64 s.prec) ∧ w'.cell? ⟨w.heap.size, 5, none⟩ = some (.slice s.FA s.fs.length s.fc) ∧ w'.cell? ⟨w.heap.size, 6, none⟩ = some (.bool s.wide) ∧ w'.cell? ⟨w.heap.size, 7, none⟩ = some (.int .i64 s.po) ∧ w'.cell? ⟨w.heap.size, 8, none⟩ = some (.slice s.PA s.ps.length s.pc)) (first | (with_reducible exact HC2.out) | (with_reducible assumption)) (first | (((with_reducible refine (New_any w2.drew).mono ?_); (rintro e w5 ⟨rfl, hw5, hb5⟩); have hk5 := ((HBX2.out.below HBD.out).below hb5).conj)) | (((with_reducible refine (order_any s _ hfl).mono ?_); (rintro e w6 ⟨rfl, hb6⟩); rw [HORD.out]; have hk6 := (((HBX2.out.below HBD.out).below hb5).below hb6).conj)))
  clear hC2 hk5 hk6
  try clear hHeld
  have hb6' := bt hb2 (bt HBD.out (bt hb5 hb6))
  have HBX6 := Lib.hid (((HBX2.out.below HBD.out).below hb5).below hb6)
  have hbl6 : w6.heap[w.heap.size]? = some (.cells (subCells s) 32 (0, 0)) := blk_below (blk_below (blk_below (blk_below (blk_below HB0.out hb) hb') HBD.out) hb5) hb6
  have HBL6 := Lib.hid hbl6
  have HW6 := Lib.hid (HW.out.below hb6')
  have HST6 := Lib.hid (WStep.of_below hb6' g v)
  have hsz6 : base ≤ w6.heap.size := Nat.le_trans hbase hb6'.size
  obtain ⟨h00, h01, h02, h03, h04, h05, h06, h07, h08⟩ := HBX6.out
  obtain ⟨kn, hkn⟩ : ∃ kn : Nat, s.kind.toNat = kn := ⟨_, rfl⟩
  have HKN := Lib.hid hkn
  have huk : IntKind.u64.wrap s.kind = (kn : Int) := by rw [IntKind.wrap_u64]; omega
  have hkn2 : kn ≤ 1 := by have := HK.out; omega
  clear hkn hw5 hbl6 hb hb' hb5 hb6 hb0 hb1 hb2 HC2 HBD
  go_wp2_with fail
  refine (typed01_any s w6 (by have := HK.out; omega) (by have := HK.out; omega)).mono ?_
  rintro e w7 ⟨rfl, hb7⟩
  rw [HTY.out]
  have HW7 := Lib.hid (HW6.out.below hb7)
  have HBL7 := Lib.hid (blk_below HBL6.out hb7)
  have HST7 := Lib.hid (HST6.out.trans (WStep.of_below hb7 g v))
  clear h00 h01 h02 h03 h04 h05 h06 h07 h08 HBX6
  have HBX7 := Lib.hid (SubBox.of_blk HBL7.out)
  obtain ⟨h00, h01, h02, h03, h04, h05, h06, h07, h08⟩ := HBX7.out
  go_wp2_with fail
  refine (Put_any g base v bs kn 7 w7 HW7.out (by omega) (by omega) (Nat.le_trans hsz6 hb7.size)).mono ?_
  rintro e w8 ⟨rfl, v8, hw8, hs8⟩
  have HBL8 := Lib.hid (hs8.blk HW7.out HBL7.out (by decide) (by decide))
  have HW8 := Lib.hid hw8
  have HST8 := Lib.hid (HST7.out.trans hs8)
  have hsz8 := Nat.le_trans (Nat.le_trans hsz6 hb7.size) hs8.size
  clear h00 h01 h02 h03 h04 h05 h06 h07 h08 HBX7 hw8 hs8 hb7
  have HBX8 := Lib.hid (SubBox.of_blk HBL8.out)
  obtain ⟨h00, h01, h02, h03, h04, h05, h06, h07, h08⟩ := HBX8.out
  go_wp2_with fail
  refine (waste_any base g v8 _ s.wasted w8 HW8.out (by rw [List.length_append, digits_length]; have := wid_le 7; omega) hsz8 z7 (by omega)).mono ?_
  rintro e w9 ⟨rfl, v9, hw9, hs9⟩
  have HBL9 := Lib.hid (hs9.blk HW8.out HBL8.out (by decide) (by decide))
  have HW9 := Lib.hid hw9
  have HST9 := Lib.hid (HST8.out.trans hs9)
  have hsz9 := Nat.le_trans hsz8 hs9.size
  clear h00 h01 h02 h03 h04 h05 h06 h07 h08 HBX8 hw9 hs9
  have HBX9 := Lib.hid (SubBox.of_blk HBL9.out)
  obtain ⟨h00, h01, h02, h03, h04, h05, h06, h07, h08⟩ := HBX9.out
  have HR9 := Lib.hid (HR.out w9 v9 HST9.out)
  go_wp2_with fail
  have HBD := Lib.hid (bd1 w9)
  have hC9 := (HBX9.out.below HBD.out).conj
  have HC9 := Lib.hid hC9
  have e2 : IntKind.i64.wrap (depth - s.wasted) = depth - s.wasted := IntWalk.i64_in _ (by omega)
  clear h00 h01 h02 h03 h04 h05 h06 h07 h08
  go_region_held3 (fun w' => w'.cell? ⟨w.heap.size, 0, none⟩ = some (.int .i64 s.kind) ∧ w'.cell? ⟨w.heap.size, 1, none⟩ = some (.int .i64 s.wasted) ∧ w'.cell? ⟨w.heap.size, 2, none⟩ = some (.int .i64 s.order) ∧ w'.cell? ⟨w.heap.size, 3, none⟩ = some (.int .i64 s.shift) ∧ w'.cell? ⟨w.heap.size, 4, none⟩ = some (.int .i64 s.prec) ∧ w'.cell? ⟨w.heap.size, 5, none⟩ = some (.slice s.FA s.fs.length s.fc) ∧ w'.cell? ⟨w.heap.size, 6, none⟩ = some (.bool s.wide) ∧ w'.cell? ⟨w.heap.size, 7, none⟩ = some (.int .i64 s.po) ∧ w'.cell? ⟨w.heap.size, 8, none⟩ = some (.slice s.PA s.ps.length s.pc)) (first | (with_reducible exact HC9.out) | (with_reducible assumption)) (((with_reducible refine (down_any A n c xs s.wasted _ (HR9.out.below HBD.out) (by omega)).mono ?_); (rintro e w10 ⟨v10, rfl, hown10, hb10⟩); have hk10 := ((HBX9.out.below HBD.out).below hb10).conj))
  clear hC9 hk10
  try clear hHeld
  have HW10 := Lib.hid ((HW9.out.below HBD.out).below hb10)
  have HST10 := Lib.hid ((HST9.out.trans (WStep.of_below HBD.out g v9)).trans (WStep.of_below hb10 g v9))
  have HBL10 := Lib.hid (blk_below (blk_below HBL9.out HBD.out) hb10)
  have hsz10 := Nat.le_trans (Nat.le_trans hsz9 HBD.out.size) hb10.size
  have HBX10 := Lib.hid (SubBox.of_blk HBL10.out)
  obtain ⟨h00, h01, h02, h03, h04, h05, h06, h07, h08⟩ := HBX10.out
  obtain ⟨A10, c10, rfl, hrc10⟩ := own_reads hown10
  have hcap10 := own_cap hown10
  have hdl : (downI xs s.wasted).length = n := by rw [← HL.out]; simp [downI]
  have HDL := Lib.hid hdl
  rw [hdl] at hcap10 hown10 ⊢
  have HO10 := Lib.hid hown10
  clear hrc10 hown10 hdl e2
  have hwd : wid 7 = 7 := rfl
  have hpb : putBits xs s depth = digits s.kind.toNat 7 ++ wasteBits s.wasted.toNat ++ allBits (wid (depth - s.wasted)) (if s.kind = 0 then (downI xs s.wasted).take 1 else downI xs s.wasted) := rfl
  rw [HKN.out] at hpb
  have HPB := Lib.hid hpb
  clear hwd hpb
  have hlen9 : (bs ++ digits kn (wid 7) ++ wasteBits s.wasted.toNat).length ≤ 500000000000 := by
    rw [List.length_append, List.length_append, digits_length, wasteBits_length]
    have := wid_le 7; omega
  rcases HK.out with k0 | k1
  · have k0b : (s.kind == 0) = true := by rw [k0]; rfl
    have hpb : putBits xs s depth = digits kn 7 ++ wasteBits s.wasted.toNat ++ allBits (wid (depth - s.wasted)) ((downI xs s.wasted).take 1) := by rw [HPB.out, if_pos k0]
    have HPB2 := Lib.hid hpb
    have hto := run_cut_to Try.underlying27 info_int A10 n c10 1 z1 hcap10
    clear k0 hpb
    go_wp2_with fail
    refine (all_any base g v9 _ A10 1 c10 ((downI xs s.wasted).take 1) (depth - s.wasted) w10 HW10.out (fun W v' hst => (own_rd (hst.own_ HW10.out HO10.out (by decide) (by decide)) HDL.out).take_ 1 z1) hlen9 (by omega) hsz10).mono ?_
    rintro e w11 ⟨rfl, v11, hw11, hs11⟩
    have HW11 := Lib.hid hw11; have HS11 := Lib.hid hs11
    clear hw11 hs11 h00 h01 h02 h03 h04 h05 h06 h07 h08
    go_wp2
    go_ret
    refine ⟨rfl, v11, ?_, HST10.out.trans HS11.out⟩
    rw [HPB2.out, ← List.append_assoc, ← List.append_assoc]
    exact HW11.out
  · have k1b : (s.kind == 1) = true := by rw [k1]; rfl
    have k0b : (s.kind == 0) = false := by rw [k1]; rfl
    have hpb : putBits xs s depth = digits kn 7 ++ wasteBits s.wasted.toNat ++ allBits (wid (depth - s.wasted)) (downI xs s.wasted) := by rw [HPB.out, if_neg (by omega)]
    have HPB2 := Lib.hid hpb
    clear k1 hpb
    go_wp2_with fail
    refine (all_any base g v9 _ A10 n c10 (downI xs s.wasted) (depth - s.wasted) w10 HW10.out (fun W v' hst => own_rd (hst.own_ HW10.out HO10.out (by decide) (by decide)) HDL.out) hlen9 (by omega) hsz10).mono ?_
    rintro e w11 ⟨rfl, v11, hw11, hs11⟩
    have HW11 := Lib.hid hw11; have HS11 := Lib.hid hs11
    clear hw11 hs11 h00 h01 h02 h03 h04 h05 h06 h07 h08
    go_wp2
    go_ret
    refine ⟨rfl, v11, ?_, HST10.out.trans HS11.out⟩
    rw [HPB2.out, ← List.append_assoc, ← List.append_assoc]
    exact HW11.out
end Go.Proofs.Ytdpgojcljlfnbaa
