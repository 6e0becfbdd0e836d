/- Contracts of meta.odd, meta.reader; no condition. -/
import Derived.Test.YtdpgojcljlfnbaaReadComment
import Derived.Test.YtdpgojcljlfnbaaWritten
import Derived.Test.YtdpgojcljlfnbaaMapLit
--DEV
set_option linter.unusedVariables false
set_option linter.unusedSimpArgs false
set_option maxRecDepth 100000
namespace Go.Proofs.Ytdpgojcljlfnbaa
open Go.RowKit
open Go.Proofs.YtdpgojcljlfnbaaW.PrintWords

/-- What is wrong with a block by itself. -/
def oddM (k : Int) (n : Nat) : Int := if k < 0 ∨ 127 ≤ k then 8 else if 16777215 < n then 7 else 0
theorem oddM_any (k : Int) (A : Option Addr) (n c : Nat) (w : World) : Calls Try.prog 55 #[.agg #[.int .i64 k, .slice A n c]] w fun e w' => e = .returned (.int .i64 (oddM k n)) ∧ Below w.heap.size w w' := by
  by_cases h1 : k < 0
  · have HV : Hid (oddM k n = 8) := Lib.hid (by unfold oddM; rw [if_pos (.inl h1)])
    go_enter Try.func55, Try.ntmps55
    go_wp2
    go_ret
    exact ⟨ret_int HV.out.symm, ba _ _⟩
  by_cases h2 : 127 ≤ k
  · have HV : Hid (oddM k n = 8) := Lib.hid (by unfold oddM; rw [if_pos (.inr h2)])
    go_enter Try.func55, Try.ntmps55
    go_wp2
    go_ret
    exact ⟨ret_int HV.out.symm, ba _ _⟩
  by_cases h3 : 16777215 < n
  · have HV : Hid (oddM k n = 7) := Lib.hid (by unfold oddM; rw [if_neg (by omega), if_pos h3])
    go_enter Try.func55, Try.ntmps55
    go_wp2
    go_ret
    exact ⟨ret_int HV.out.symm, ba _ _⟩
  · have HV : Hid (oddM k n = 0) := Lib.hid (by unfold oddM; rw [if_neg (by omega), if_neg h3])
    go_enter Try.func55, Try.ntmps55
    go_wp2
    go_ret
    exact ⟨ret_int HV.out.symm, ba _ _⟩
/-- How a kind is read. -/
def readFn (k : Int) : Value := if k = 0 then .func (.func 93) #[] #[] else if k = 1 then .func (.func 94) #[] #[] else if k = 3 then .func (.func 95) #[] #[] else if k = 4 then .func (.func 96) #[] #[] else .nilFunc
@[reducible] def readMap : Array MapEntry := #[⟨.int .i64 0, .func (.func 93) #[] #[], 0⟩, ⟨.int .i64 1, .func (.func 94) #[] #[], 1⟩, ⟨.int .i64 3, .func (.func 95) #[] #[], 2⟩, ⟨.int .i64 4, .func (.func 96) #[] #[], 3⟩]
theorem readMap_look (k : Int) (w : World) : (Instr.lookup 162 (.map (some w.heap.size)) (.int .i64 k) false).run Try.prog (w.alloc (Obj.map readMap 4)) = .ok (readFn k) (w.alloc (Obj.map readMap 4)) := by
  have hb := heap_alloc_new w (Obj.map readMap 4)
  unfold readFn
  by_cases h0 : k = 0
  · subst h0; rw [if_pos rfl]; exact run_look_map Try.underlying162 Try.underlying3 _ _ _ _ hb 0 0 _ rfl
  rw [if_neg h0]
  by_cases h1 : k = 1
  · subst h1; rw [if_pos rfl]; exact run_look_map Try.underlying162 Try.underlying3 _ _ _ _ hb 1 1 _ rfl
  rw [if_neg h1]
  by_cases h3 : k = 3
  · subst h3; rw [if_pos rfl]; exact run_look_map Try.underlying162 Try.underlying3 _ _ _ _ hb 3 2 _ rfl
  rw [if_neg h3]
  by_cases h4 : k = 4
  · subst h4; rw [if_pos rfl]; exact run_look_map Try.underlying162 Try.underlying3 _ _ _ _ hb 4 3 _ rfl
  rw [if_neg h4]
  refine run_look_none Try.underlying162 Try.underlying3 _ _ _ _ hb k _ (by kernel_rfl) ?_
  have b0 : (k == 0) = false := by rw [beq_eq_false_iff_ne]; exact h0
  have b1 : (k == 1) = false := by rw [beq_eq_false_iff_ne]; exact h1
  have b3 : (k == 3) = false := by rw [beq_eq_false_iff_ne]; exact h3
  have b4 : (k == 4) = false := by rw [beq_eq_false_iff_ne]; exact h4
  simp [Instr.findNow, Instr.sameNow, b0, b1, b3, b4]
theorem reader_any (k : Int) (w : World) : Calls Try.prog 56 #[.int .i64 k] w fun e w' => e = .returned (readFn k) ∧ Below w.heap.size w w' := by
  have hmm := @run_makeMap Try.prog
  have i0 := fun W : World => run_insert_new Try.underlying162 Try.underlying3 W #[] 0 0 (.func (.func 93) #[] #[]) rfl
  have i1 := fun W : World => run_insert_new Try.underlying162 Try.underlying3 W #[⟨.int .i64 0, .func (.func 93) #[] #[], 0⟩] 1 1 (.func (.func 94) #[] #[]) rfl
  have i2 := fun W : World => run_insert_new Try.underlying162 Try.underlying3 W #[⟨.int .i64 0, .func (.func 93) #[] #[], 0⟩, ⟨.int .i64 1, .func (.func 94) #[] #[], 1⟩] 2 3 (.func (.func 95) #[] #[]) rfl
  have i3 := fun W : World => run_insert_new Try.underlying162 Try.underlying3 W #[⟨.int .i64 0, .func (.func 93) #[] #[], 0⟩, ⟨.int .i64 1, .func (.func 94) #[] #[], 1⟩, ⟨.int .i64 3, .func (.func 95) #[] #[], 2⟩] 3 4 (.func (.func 96) #[] #[]) rfl
  have i4 := readMap_look k
  go_enter Try.func56, Try.ntmps56
  go_wp2
  go_ret
  exact ⟨rfl, ba _ _⟩
theorem textR_size (ys : List Int) (e : Int) : (textR ys e).1.size ≤ ys.length := by
  have hs : (sizeR ys e).2.1.length ≤ ys.length := by
    unfold sizeR
    split
    · simp
    · exact Nat.le_refl _
  unfold textR
  split
  · exact Nat.zero_le _
  · split
    · exact Nat.zero_le _
    · rw [strOfNums_size, List.length_take]; omega
theorem fieldsR_bd (n : Nat) (ys : List Int) (e : Int) : (∀ f ∈ (fieldsR n ys e).1, f.size ≤ ys.length) ∧ (e = 0 → 4 * (fieldsR n ys e).1.length ≤ ys.length + 4) ∧ (e ≠ 0 → (fieldsR n ys e).1 = []) := by
  induction n generalizing ys e with
  | zero => simp [fieldsR]
  | succ n ih =>
    by_cases he : e = 0
    · subst he
      rw [fieldsR, if_neg (by simp)]
      obtain ⟨i1, i2, i3⟩ := ih (textR ys 0).2.1 (textR ys 0).2.2
      have hl := textR_len ys 0
      refine ⟨fun f hf => ?_, fun _ => ?_, fun h => absurd rfl h⟩
      · rcases List.mem_cons.1 hf with rfl | hf
        · exact textR_size ys 0
        · exact Nat.le_trans (i1 f hf) hl.1
      · simp only [List.length_cons]
        by_cases h2 : (textR ys 0).2.2 = 0
        · have := i2 h2; have := hl.2 h2; omega
        · rw [i3 h2]; simp
    · rw [fieldsR, if_pos he]
      simp [he]
theorem commentR_bd (ys : List Int) : (commentR ys).1.size ≤ ys.length ∧ (∀ f ∈ (commentR ys).2.1, f.size ≤ ys.length) ∧ 4 * (commentR ys).2.1.length ≤ ys.length + 4 := by
  have h1 := textR_size ys 0
  have h2 := (textR_len ys 0).1
  have h3 : (sizeR (textR ys 0).2.1 (textR ys 0).2.2).2.1.length ≤ (textR ys 0).2.1.length := by
    unfold sizeR
    split
    · simp
    · exact Nat.le_refl _
  obtain ⟨i1, i2, i3⟩ := fieldsR_bd (sizeR (textR ys 0).2.1 (textR ys 0).2.2).1.toNat (sizeR (textR ys 0).2.1 (textR ys 0).2.2).2.1 (sizeR (textR ys 0).2.1 (textR ys 0).2.2).2.2
  refine ⟨h1, fun f hf => Nat.le_trans (i1 f hf) (by omega), ?_⟩
  show 4 * (fieldsR _ _ _).1.length ≤ _
  by_cases h : (sizeR (textR ys 0).2.1 (textR ys 0).2.2).2.2 = 0
  · have := i2 h; omega
  · rw [i3 h]; simp
theorem fn_eql (f : Nat) (W : World) : (binOp .eql 107 (.func (.func f) #[] #[]) .nilFunc).run Try.prog W = .ok (.bool false) W := by kernel_rfl
theorem fn_eql_nil (W : World) : (binOp .eql 107 .nilFunc .nilFunc).run Try.prog W = .ok (.bool true) W := by kernel_rfl
/-- A comment that is read: who made it, fields, what is wrong. -/
def readC (ys : List Int) : ByteArray × List ByteArray × Int :=
  if (commentR ys).2.2 ≠ 0 then (⟨#[]⟩, [], (commentR ys).2.2) else if commentB (commentR ys).1 (commentR ys).2.1 then ((commentR ys).1, (commentR ys).2.1, 0) else (⟨#[]⟩, [], 6)
def ReadC (w : World) (ys : List Int) (e : Ending) (w' : World) : Prop :=
  ((readC ys).2.2 = 0 ∧ ∃ v, e = .returned (.tuple #[.iface 49 (.agg #[.string (readC ys).1, v]), .int .i64 0]) ∧ OwnS w' w.heap.size v (readC ys).2.1 ∧ Below w.heap.size w w') ∨
  ((readC ys).2.2 ≠ 0 ∧ e = .returned (.tuple #[.nilIface, .int .i64 (readC ys).2.2]) ∧ Below w.heap.size w w')
set_option maxHeartbeats 2000000 in
theorem ReadC_any (A : Option Addr) (c : Nat) (ys : List Int) (w : World) (hr : ReadsInt w .u8 A ys.length ys) (hc : ys.length ≤ c) (hy : IsByte ys) (hA : ∀ ad, A = some ad → ad.block < w.heap.size) (hl : ys.length ≤ 1000000) :
    Calls Try.prog 15 #[.agg #[.int .i64 4, .slice A ys.length c]] w (ReadC w ys) := by
  have HR := Lib.hid hr; have HY := Lib.hid hy; have HA := Lib.hid hA
  have ho : oddM 4 ys.length = 0 := by unfold oddM; rw [if_neg (by omega), if_neg (by omega)]
  have HOD := Lib.hid ho
  have hbd := commentR_bd ys
  have HV : Hid (readC ys = if (commentR ys).2.2 ≠ 0 then (⟨#[]⟩, [], (commentR ys).2.2) else if commentB (commentR ys).1 (commentR ys).2.1 then ((commentR ys).1, (commentR ys).2.1, 0) else (⟨#[]⟩, [], 6)) := Lib.hid rfl
  obtain ⟨W0, hW0⟩ : ∃ W0, w.alloc (Obj.cells #[.int .i64 4, .slice A ys.length c] 39) = W0 := ⟨_, rfl⟩
  have hblk0 : W0.heap[w.heap.size]? = some (.cells #[.int .i64 4, .slice A ys.length c] 39 (0, 0)) := by rw [← hW0]; exact heap_alloc_new w _
  have hb0 : Below w.heap.size w W0 := by rw [← hW0]; exact ba _ _
  have HB0 := Lib.hid hblk0; have HBW0 := Lib.hid hb0; have HW0 := Lib.hid hW0; have HBD := Lib.hid hbd
  clear hr hy hA ho hbd hW0 hblk0 hb0
  have t3 := no_seek (T := 49) (by decide)
  have qf := fn_eql
  go_enter Try.func15, Try.ntmps15
  go_wp2_with fail
  rw [HW0.out]
  refine (oddM_any 4 A ys.length c W0).mono ?_
  rintro e w1 ⟨rfl, hb1⟩
  rw [HOD.out]
  have b1 := blk_below HB0.out hb1
  have c0 := blk_cell b1 0
  simp only [List.getElem?_toArray, List.getElem?_cons_zero, List.getElem?_cons_succ] at c0
  have HB1 := Lib.hid b1
  have HBW1 := Lib.hid (bt HBW0.out hb1)
  clear b1 hb1
  go_wp2_with fail
  refine (reader_any 4 w1).mono ?_
  rintro e w2 ⟨rfl, hb2⟩
  have b2 := blk_below HB1.out hb2
  have c1 := blk_cell b2 1
  simp only [List.getElem?_toArray, List.getElem?_cons_zero, List.getElem?_cons_succ] at c1
  have HBW2 := Lib.hid (bt HBW1.out hb2)
  have hrf : readFn 4 = .func (.func 96) #[] #[] := rfl
  rw [hrf]
  clear b2 hb2 c0 hrf
  go_wp2_with fail
  refine (readComment_any A c ys w2 (HR.out.below HBW2.out) hc HY.out (fun ad h => Nat.lt_of_lt_of_le (HA.out ad h) HBW2.out.size) (by omega)).mono ?_
  rintro e w3 ⟨v3, rfl, hown3, hb3⟩
  obtain ⟨⟨mk, fs, er⟩, hcr⟩ : ∃ t, commentR ys = t := ⟨_, rfl⟩
  have hbd := HBD.out
  rw [hcr] at hbd hown3 HV
  rw [hcr]
  dsimp only at hbd hown3 HV ⊢
  obtain ⟨A3, c3, hv3, hrd3⟩ := own_reads_of (d := ByteArray.empty) hown3
  subst hv3
  have HO3 := Lib.hid hown3; have HR3 := Lib.hid hrd3
  have HBW3 := Lib.hid (bt HBW2.out hb3)
  obtain ⟨hbd1, hbd2, hbd3⟩ := hbd
  have hmk : mk.size ≤ 1000000 := by omega
  have HFS : Hid (∀ f ∈ fs, f.size ≤ 1000000) := Lib.hid (fun f hf => Nat.le_trans (hbd2 f hf) hl)
  have hfl : fs.length ≤ 1000000 := by omega
  have hs23 : w.heap.size ≤ w2.heap.size := HBW2.out.size
  clear hcr hown3 hrd3 hb3 c1 hbd1 hbd2 hbd3 qf
  by_cases he : er = 0
  · subst he
    cases hcb : commentB mk fs
    · have HX : Hid (readC ys = (⟨#[]⟩, [], 6)) := Lib.hid (by rw [HV.out, if_neg (by simp), hcb]; rfl)
      have hw := writtenComment_any mk A3 fs.length c3 fs w3 HR3.out hfl hmk HFS.out
      rw [hcb] at hw
      have HW := Lib.hid hw
      clear hcb hw
      go_wp2_with fail
      refine HW.out.mono ?_
      rintro e w4 ⟨v4, rfl, hown4, hb4⟩
      obtain ⟨A4, c4, hv4, hrd4⟩ := own_reads hown4
      subst hv4
      clear hown4 hrd4
      go_wp2
      go_ret2
      exact .inr ⟨by rw [HX.out]; decide, by rw [HX.out]; rfl, bt HBW3.out (bt hb4 (ba _ _))⟩
    · have HX : Hid (readC ys = (mk, fs, 0)) := Lib.hid (by rw [HV.out, if_neg (by simp), hcb]; rfl)
      have hw := writtenComment_any mk A3 fs.length c3 fs w3 HR3.out hfl hmk HFS.out
      rw [hcb] at hw
      have HW := Lib.hid hw
      clear hcb hw
      go_wp2_with fail
      refine HW.out.mono ?_
      rintro e w4 ⟨v4, rfl, hown4, hb4⟩
      obtain ⟨A4, c4, hv4, hrd4⟩ := own_reads hown4
      subst hv4
      have HB4 := Lib.hid hb4
      clear hown4 hrd4 hb4
      go_wp2
      go_ret2
      refine .inl ⟨by rw [HX.out], .slice A3 fs.length c3, by rw [HX.out]; rfl, ?_, bt HBW3.out (bt HB4.out (ba _ _))⟩
      rw [HX.out]
      exact own_weaken (pw_own_below HO3.out (bt HB4.out (ba _ _))) hs23
  · have HX : Hid (readC ys = (⟨#[]⟩, [], er)) := Lib.hid (by rw [HV.out, if_pos he])
    have heb : (er != 0) = true := by rw [bne_iff_ne]; exact he
    have heb2 : (er == 0) = false := by rw [beq_eq_false_iff_ne]; exact he
    have HE := Lib.hid he
    clear he
    go_wp2
    go_ret2
    exact .inr ⟨by rw [HX.out]; exact HE.out, by rw [HX.out]; rfl, HBW3.out⟩
end Go.Proofs.Ytdpgojcljlfnbaa
