/- The contract of meta.readComment; up to a milliard bytes. -/
import Derived.Test.YtdpgojcljlfnbaaTexts
import Derived.Test.YtdpgojcljlfnbaaComment
import Derived.Test.YtdpgojcljlfnbaaStep
import Derived.Deep.RegionHeld3
--DEV
set_option linter.unusedVariables false
set_option linter.unusedSimpArgs false
set_option maxRecDepth 100000
namespace Go.Proofs.Ytdpgojcljlfnbaa
open Go.RowKit
open Go.Proofs.YtdpgojcljlfnbaaW.PrintWords

/-- So many texts, what is left, what is wrong. -/
def fieldsR : Nat → List Int → Int → List ByteArray × List Int × Int
  | 0, ys, e => ([], ys, e)
  | n + 1, ys, e => if e ≠ 0 then ([], ys, e) else ((textR ys e).1 :: (fieldsR n (textR ys e).2.1 (textR ys e).2.2).1, (fieldsR n (textR ys e).2.1 (textR ys e).2.2).2)
/-- What a comment's body tells: who made it, fields, what is wrong. -/
def commentR (ys : List Int) : ByteArray × List ByteArray × Int :=
  let t := textR ys 0
  let s := sizeR t.2.1 t.2.2
  let f := fieldsR s.1.toNat s.2.1 s.2.2
  (t.1, f.1, if f.2.2 = 0 ∧ f.2.1 ≠ [] then 3 else f.2.2)
theorem textR_len (ys : List Int) (e : Int) : (textR ys e).2.1.length ≤ ys.length ∧ ((textR ys e).2.2 = 0 → (textR ys e).2.1.length + 4 ≤ ys.length) := by
  have hs : (sizeR ys e).2.1.length ≤ ys.length ∧ ((sizeR ys e).2.2 = 0 → (sizeR ys e).2.1.length + 4 ≤ ys.length) := by
    unfold sizeR
    split
    · rename_i h; simp; omega
    · simp
  unfold textR
  split
  · exact ⟨hs.1, fun h => by cases h⟩
  · rename_i h0
    have h0 : (sizeR ys e).2.2 = 0 := by simpa using h0
    split
    · exact ⟨hs.1, fun h => by cases h⟩
    · have := hs.2 h0
      simp only [List.length_drop]
      omega
theorem info_string : (Try.prog.info? 9).map (fun i => (i.zero, i.size, i.bytes)) = some (some (.string ⟨#[]⟩), 1, 16) := by kernel_rfl
abbrev OwnS (w : World) (base : Nat) (v : Value) (xs : List ByteArray) : Prop := w.ownsRow base 9 1 v xs.length (encs Value.string xs)
def CommentRes (w : World) (mk : ByteArray) (fs : List ByteArray) (err : Int) (e : Ending) (w' : World) : Prop := ∃ v, e = .returned (.tuple #[.iface 49 (.agg #[.string mk, v]), .int .i64 err]) ∧ OwnS w' w.heap.size v fs ∧ Below w.heap.size w w'

set_option maxHeartbeats 2000000 in
theorem readComment_any (A : Option Addr) (c : Nat) (ys : List Int) (w : World) (hr : ReadsInt w .u8 A ys.length ys) (hc : ys.length ≤ c) (hy : IsByte ys) (hA : ∀ ad, A = some ad → ad.block < w.heap.size) (hl : ys.length ≤ 1000000000) :
    Calls Try.prog 96 #[.slice A ys.length c] w (CommentRes w (commentR ys).1 (commentR ys).2.1 (commentR ys).2.2) := by
  have HV : Hid (commentR ys = ((textR ys 0).1, (fieldsR (sizeR (textR ys 0).2.1 (textR ys 0).2.2).1.toNat (sizeR (textR ys 0).2.1 (textR ys 0).2.2).2.1 (sizeR (textR ys 0).2.1 (textR ys 0).2.2).2.2).1, if (fieldsR (sizeR (textR ys 0).2.1 (textR ys 0).2.2).1.toNat (sizeR (textR ys 0).2.1 (textR ys 0).2.2).2.1 (sizeR (textR ys 0).2.1 (textR ys 0).2.2).2.2).2.2 = 0 ∧ (fieldsR (sizeR (textR ys 0).2.1 (textR ys 0).2.2).1.toNat (sizeR (textR ys 0).2.1 (textR ys 0).2.2).2.1 (sizeR (textR ys 0).2.1 (textR ys 0).2.2).2.2).2.1 ≠ [] then 3 else (fieldsR (sizeR (textR ys 0).2.1 (textR ys 0).2.2).1.toNat (sizeR (textR ys 0).2.1 (textR ys 0).2.2).2.1 (sizeR (textR ys 0).2.1 (textR ys 0).2.2).2.2).2.2)) := Lib.hid rfl
  have hlen1 := textR_len ys 0
  obtain ⟨t1, ht1⟩ : ∃ t1, textR ys 0 = t1 := ⟨_, rfl⟩
  obtain ⟨s1, hs1⟩ : ∃ s1, sizeR t1.2.1 t1.2.2 = s1 := ⟨_, rfl⟩
  obtain ⟨f1, hf1⟩ : ∃ f1, fieldsR s1.1.toNat s1.2.1 s1.2.2 = f1 := ⟨_, rfl⟩
  rw [ht1, hs1, hf1] at HV
  rw [ht1] at hlen1
  obtain ⟨W0, hW0⟩ : ∃ W0, w.alloc (Obj.cells #[.slice A ys.length c, .int .i64 0] 193) = W0 := ⟨_, rfl⟩
  have hblk0 : W0.heap[w.heap.size]? = some (.cells #[.slice A ys.length c, .int .i64 0] 193 (0, 0)) := by rw [← hW0]; exact heap_alloc_new w _
  have hb0 : Below w.heap.size w W0 := by rw [← hW0]; exact ba _ _
  have HT0 : Hid (IsT W0 w.heap.size A c ys 0) := Lib.hid ⟨hblk0, ⟨hr.below hb0, hA⟩, hc, hy⟩
  have HBW0 := Lib.hid hb0; have HW0 := Lib.hid hW0
  have HT1 := Lib.hid ht1; have HS1 := Lib.hid hs1; have HF1 := Lib.hid hf1; have HLEN := Lib.hid hlen1
  clear hr hA hy hblk0 hb0 hW0 ht1 hs1 hf1 hlen1
  go_enter Try.func96, Try.ntmps96
  go_wp2_with fail
  rw [HW0.out]
  refine (text_any w.heap.size A c ys 0 W0 HT0.out).mono ?_
  rintro e w1 ⟨rfl, ⟨A1, c1, hT1⟩, hst1⟩
  rw [HT1.out] at hT1 ⊢
  have HTT1 := Lib.hid hT1; have HST1 := Lib.hid hst1
  clear hT1 hst1
  obtain ⟨mk, y1, e1⟩ := t1
  obtain ⟨n1, y2, e2⟩ := s1
  obtain ⟨fs, y3, e3⟩ := f1
  dsimp only at HTT1 HS1 HF1 HLEN HV ⊢
  have hlt1 : w.heap.size < w1.heap.size := blk_lt HTT1.out.blk
  have hb1 := HST1.out.below HBW0.out (Nat.le_refl _)
  have hbw1 : Below w.heap.size w (w1.alloc (Obj.cells #[.string mk, .slice none 0 0] 49)) := bt hb1 (ba _ _)
  have hba1 : Below w1.heap.size w1 (w1.alloc (Obj.cells #[.string mk, .slice none 0 0] 49)) := ba _ _
  have hbc1 : (w1.alloc (Obj.cells #[.string mk, .slice none 0 0] 49)).heap[w1.heap.size]? = some (.cells #[.string mk, .slice none 0 0] 49 (0, 0)) := heap_alloc_new w1 _
  have HBW1 := Lib.hid hbw1; have HBC1 := Lib.hid hbc1
  have HTA := Lib.hid (HTT1.out.below hba1)
  have hby1 := HTT1.out.by_
  have hn1 := sizeR_bd e1 hby1
  rw [HS1.out] at hn1
  obtain ⟨N, hN⟩ : ∃ N : Nat, n1 = (N : Int) := ⟨n1.toNat, by omega⟩
  subst hN
  rw [Int.toNat_natCast] at HF1
  have hN32 : N ≤ 4294967295 := by omega
  clear hbw1 hba1 hbc1 hb1 hby1 hn1
  go_wp2_with fail
  refine (size_any w.heap.size A1 c1 y1 e1 _ HTA.out).mono ?_
  rintro e w2 ⟨rfl, ⟨A2, c2, hT2⟩, hst2⟩
  rw [HS1.out] at hT2 ⊢
  dsimp only at hT2 ⊢
  have hbc2 := hst2.blk HTA.out.blk HBC1.out (by omega)
  have HT2 := Lib.hid hT2; have HBC2 := Lib.hid hbc2
  have HBW2 := Lib.hid (hst2.below HBW1.out (Nat.le_refl _))
  have hs2 : w1.heap.size < w2.heap.size := blk_lt hbc2
  have hy2 : y2.length ≤ y1.length ∧ (e2 = 0 → e1 = 0 ∧ y2.length + 4 ≤ y1.length) := by
    have h := HS1.out
    unfold sizeR at h
    split at h
    · rename_i h2
      simp only [Prod.mk.injEq] at h
      obtain ⟨_, h3, _⟩ := h
      subst h3
      rw [List.length_drop]
      refine ⟨by omega, fun _ => ⟨h2.1, by omega⟩⟩
    · simp only [Prod.mk.injEq] at h
      obtain ⟨_, h3, h4⟩ := h
      subst h3; subst h4
      exact ⟨Nat.le_refl _, fun h => by cases h⟩
  have hyl : y2.length ≤ ys.length := by have := HLEN.out.1; omega
  clear hT2 hst2 hbc2 hy2
  go_wp2_with fail
  go_loopw [6] (fun i wr => Hid (∃ (j : Nat) (zs : List Int) (e : Int) (A' : Option Addr) (c' : Nat) (l : List ByteArray) (v : Value), i = .int .i64 j ∧ IsT wr w.heap.size A' c' zs e ∧ wr.heap[w1.heap.size]? = some (.cells #[.string mk, v] 49 (0, 0)) ∧ OwnS wr (w1.heap.size + 1) v l ∧ (l ++ (fieldsR j zs e).1, (fieldsR j zs e).2) = (fs, y3, e3) ∧ Below w.heap.size w wr ∧ (zs.length + 4 * l.length ≤ ys.length + 4 ∧ (e = 0 → zs.length + 4 * l.length ≤ ys.length)) ∧ j ≤ 4294967295)) (fun i _ => (intOf i).toNat)
  case atStart => exact Lib.hid ⟨N, y2, e2, A2, c2, [], .slice none 0 0, rfl, HT2.out, HBC2.out, own_nil _ _ _ _, by rw [HF1.out]; rfl, HBW2.out, ⟨by simp; omega, fun _ => by simpa using hyl⟩, hN32⟩
  case round =>
    obtain ⟨j, zs, e, A3, c3, l, v, rfl, hT, hbc, hown, hfr, hbr, hlen, hj⟩ := hrel.out
    clear hrel
    have HT := Lib.hid hT; have HBC := Lib.hid hbc; have HO := Lib.hid hown; have HFR := Lib.hid hfr; have HBR := Lib.hid hbr; have HLN := Lib.hid hlen
    obtain ⟨Av, cv, hv⟩ := own_slice hown
    subst hv
    have c0 := blk_cell hbc 0
    have c1 := blk_cell hbc 1
    have fz1 := blk_frozen hbc 1
    have k0 := blk_cell hT.blk 0
    have k1 := blk_cell hT.blk 1
    have fk1 := blk_frozen hT.blk 1
    simp only [List.getElem?_toArray, List.getElem?_cons_zero, List.getElem?_cons_succ] at c0 c1 k0 k1
    have hne : w1.heap.size ≠ w.heap.size := by omega
    clear hT hbc hown hfr hbr hlen
    by_cases he : e = 0
    · subst he
      cases j with
      | zero =>
        have hf := HFR.out
        simp only [fieldsR, List.append_nil, Prod.mk.injEq] at hf
        obtain ⟨rfl, rfl, rfl⟩ := hf
        by_cases hz : zs = []
        · have hzl : decide ((0 : Int) < (zs.length : Int)) = false := by rw [hz]; rfl
          have hzm : ¬ 0 < zs.length := by rw [hz]; exact Nat.lt_irrefl 0
          have HX : Hid (commentR ys = (mk, l, 0)) := Lib.hid (by rw [HV.out, if_neg (fun h => h.2 hz)])
          clear hz
          go_wp2
          go_quiet (fail)
          go_wp2
          go_ret2
          refine ⟨.slice Av l.length cv, by rw [HX.out]; rfl, ?_, bt HBR.out (bd _ _)⟩
          rw [HX.out]
          exact own_weaken (pw_own_below HO.out (bd _ _)) (by omega)
        · have hzl : decide ((0 : Int) < (zs.length : Int)) = true := decide_eq_true (by have := List.length_pos_iff.2 hz; omega)
          have HX : Hid (commentR ys = (mk, l, 3)) := Lib.hid (by rw [HV.out, if_pos ⟨rfl, hz⟩])
          have hzp : 0 < zs.length := List.length_pos_iff.2 hz
          clear hz
          go_wp2
          go_quiet (fail)
          go_wp2
          go_ret2
          refine ⟨.slice Av l.length cv, by rw [HX.out]; rfl, ?_, ?_⟩
          · rw [HX.out]
            exact own_weaken (pw_own_below (own_setCell (p := ⟨w.heap.size, 1, none⟩) HO.out (own_ne HO.out HT.out.blk (by decide)) (.int .i64 3)) (bd _ _)) (by omega)
          · exact bt (HBR.out.setCell (Nat.le_refl _) _) (bd _ _)
      | succ j =>
        have hj0 : decide ((0 : Int) < ((j + 1 : Nat) : Int)) = true := decide_eq_true (by omega)
        go_wp2_with fail
        have hfr2 : (fieldsR (j + 1) zs 0).1 = (textR zs 0).1 :: (fieldsR j (textR zs 0).2.1 (textR zs 0).2.2).1 ∧ (fieldsR (j + 1) zs 0).2 = (fieldsR j (textR zs 0).2.1 (textR zs 0).2.2).2 := by
          rw [fieldsR, if_neg (by simp)]; exact ⟨rfl, rfl⟩
        have hfr3 := HFR.out
        rw [hfr2.1, hfr2.2] at hfr3
        have htl := textR_len zs 0
        obtain ⟨⟨tx, zs', e'⟩, htx⟩ : ∃ t, textR zs 0 = t := ⟨_, rfl⟩
        have HTX := Lib.hid htx
        rw [htx] at hfr3 htl
        dsimp only at hfr3 htl
        have HF3 := Lib.hid hfr3; have HTL := Lib.hid htl
        have hbd := bd1 wr
        have hsr : w1.heap.size < wr.heap.size := blk_lt HBC.out
        have HTD := Lib.hid (HT.out.below hbd)
        have HBCD := Lib.hid (blk_below HBC.out hbd)
        have HOD := Lib.hid (pw_own_below HO.out hbd)
        have HBRD := Lib.hid (bt HBR.out hbd)
        have hkd : wr.drew.cell? ⟨w1.heap.size, 1, none⟩ = some (.slice Av l.length cv) := blk_cell HBCD.out 1
        have HKD := Lib.hid hkd
        have hll : l.length ≤ 1000000000 := by have := HLN.out.1; omega
        clear hfr2 hfr3 htx htl hbd hkd c0 k0 k1 fz1 fk1
        go_region_law (first | ((refine step_append_new (W := w4) (w0 := w4) (w1.heap.size + 1) rfl (.tmp 27) (.tmp 30) 47 9 (.string ⟨#[]⟩) 1 16 rfl Try.underlying47 info_string rfl (by decide) (by decide) (.slice Av l.length cv) l.length (encs Value.string l) [.string tx] rfl rfl rfl (by intro u hu; rw [List.mem_singleton] at hu; subst hu; rfl) HO4.out (Below.refl _ _) hs4 (by omega) ?_); (intro v5 w5 hown5 hb5 hg5 hat5); obtain ⟨Av5, cv5, hv5⟩ := own_slice hown5; subst hv5; have hk5 : w5.cell? ⟨w1.heap.size, 1, none⟩ = some (.slice Av l.length cv) := (hb5.cell (p := ⟨w1.heap.size, 1, none⟩) (Nat.lt_succ_self _)).trans hk4; have hz5 : w5.frozen? ⟨w1.heap.size, 1, none⟩ = false := (hb5.frozen (p := ⟨w1.heap.size, 1, none⟩) (Nat.lt_succ_self _)).trans (blk_frozen HBC4.out 1)) | ((go_simp; go_at_call 132; (with_reducible refine (text_any w.heap.size A3 c3 zs 0 _ HTD.out).mono ?_); (rintro e w4 ⟨rfl, ⟨A4, c4, hT4⟩, hst4⟩); rw [HTX.out] at hT4 ⊢; have HT4 := Lib.hid hT4; have hbc4 := hst4.blk HTD.out.blk HBCD.out hne; have HBC4 := Lib.hid hbc4; have HO4 := Lib.hid (own_move HOD.out (fun k hk => hst4.keep.2 k (own_lt HOD.out k hk) (fun he => by have := own_base HOD.out k hk; omega) (fun he => by cases he))); have HB4 := Lib.hid (hst4.below HBRD.out (Nat.le_refl _)); have hs4 : w1.heap.size + 1 ≤ w4.heap.size := blk_lt hbc4; have hk4 : w4.cell? ⟨w1.heap.size, 1, none⟩ = some (.slice Av l.length cv) := blk_cell hbc4 1; have hk4b : (w4.alloc (Obj.cells #[.string tx] 9)).cell? ⟨w1.heap.size, 1, none⟩ = some (.slice Av l.length cv) := pw_cell_below (ba _ _) hk4)))
        all_goals
          go_wp2
          go_roundw
          case rel =>
            refine Lib.hid ⟨j, zs', e', A4, c4, l ++ [tx], .slice Av5 (l.length + 1) cv5, by go_num, ?_, ?_, ?_, ?_, ?_, ?_, by omega⟩
            · exact (HT4.out.low hb5 (by omega)).far (p := ⟨w1.heap.size, 1, none⟩) hlt1 _
            · have hb : w5.heap[w1.heap.size]? = some (.cells #[.string mk, .slice Av l.length cv] 49 (0, 0)) := (hb5.block _ (Nat.lt_succ_self _)).trans HBC4.out
              simpa using blk_set hb 1 (.slice Av5 (l.length + 1) cv5)
            · have hb : w5.heap[w1.heap.size]? = some (.cells #[.string mk, .slice Av l.length cv] 49 (0, 0)) := (hb5.block _ (Nat.lt_succ_self _)).trans HBC4.out
              have h := own_setCell (p := ⟨w1.heap.size, 1, none⟩) hown5 (own_ne hown5 hb (by decide)) (.slice Av5 (l.length + 1) cv5)
              unfold OwnS
              rw [List.length_append, encs_append]
              exact h
            · have h := HF3.out
              rw [List.append_assoc]
              exact h
            · exact (HB4.out.trans (hb5.mono (by omega))).setCell (by show w.heap.size ≤ w1.heap.size; omega) _
            · have h1 := HTL.out; have h2 := HLN.out.2 (by first | rfl | trivial)
              rw [List.length_append]
              simp only [List.length_cons, List.length_nil]
              refine ⟨by omega, fun h => ?_⟩
              have := h1.2 h
              omega
          case measure => simp [intOf] <;> omega
    · have hf : l = fs ∧ zs = y3 ∧ e = e3 := by
        have hf := HFR.out
        cases j with
        | zero => simpa [fieldsR] using hf
        | succ j => rw [fieldsR, if_pos he] at hf; simpa using hf
      obtain ⟨rfl, rfl, rfl⟩ := hf
      have heb : (e == 0) = false := by rw [beq_eq_false_iff_ne]; exact he
      have HX : Hid (commentR ys = (mk, l, e)) := Lib.hid (by rw [HV.out, if_neg (fun h => he h.1)])
      clear he
      by_cases hj0 : 0 < j
      · have hjd : decide ((0 : Int) < (j : Int)) = true := decide_eq_true (by omega)
        go_wp2
        go_quiet (fail)
        go_wp2
        go_ret2
        refine ⟨.slice Av l.length cv, by rw [HX.out]; rfl, ?_, bt HBR.out (bd _ _)⟩
        rw [HX.out]
        exact own_weaken (pw_own_below HO.out (bd _ _)) (by omega)
      · have hjd : decide ((0 : Int) < (j : Int)) = false := decide_eq_false (by omega)
        go_wp2
        go_quiet (fail)
        go_wp2
        go_ret2
        refine ⟨.slice Av l.length cv, by rw [HX.out]; rfl, ?_, bt HBR.out (bd _ _)⟩
        rw [HX.out]
        exact own_weaken (pw_own_below HO.out (bd _ _)) (by omega)
end Go.Proofs.Ytdpgojcljlfnbaa
