/- Contracts of functions that the law reaches: Read, Awake18. -/
import Derived.Test.YtdpgojcljlfnbaaPkTexts
import Derived.Test.YtdpgojcljlfnbaaPkComment2
import Derived.Test.YtdpgojcljlfnbaaPkMapLit
import Derived.Test.YtdpgojcljlfnbaaPkWriter
section
/- Contracts of meta.odd, meta.reader; no condition. -/
set_option linter.unusedVariables false
set_option linter.unusedSimpArgs false
set_option maxRecDepth 100000
namespace Go.Proofs.Ytdpgojcljlfnbaa
open Go.RowKit
open Go.Proofs.YtdpgojcljlfnbaaW.PrintWords

/-- What is wrong with a block by itself. -/
def oddM (k : Int) (n : Nat) : Int := if k < 0 ∨ 127 ≤ k then 8 else if 16777215 < n then 7 else 0
theorem oddM_any (k : Int) (A : Option Addr) (n c : Nat) (w : World) : Calls Try.prog 55 #[.agg #[.int .i64 k, .slice A n c]] w fun e w' => e = .returned (.int .i64 (oddM k n)) ∧ Below w.heap.size w w' := by
  by_cases h1 : k < 0
  · have HV : Hid (oddM k n = 8) := Lib.hid (by unfold oddM; rw [if_pos (.inl h1)])
    go_enter Try.func55, Try.ntmps55
    go_wp2
    go_ret
    exact ⟨ret_int HV.out.symm, ba _ _⟩
  by_cases h2 : 127 ≤ k
  · have HV : Hid (oddM k n = 8) := Lib.hid (by unfold oddM; rw [if_pos (.inr h2)])
    go_enter Try.func55, Try.ntmps55
    go_wp2
    go_ret
    exact ⟨ret_int HV.out.symm, ba _ _⟩
  by_cases h3 : 16777215 < n
  · have HV : Hid (oddM k n = 7) := Lib.hid (by unfold oddM; rw [if_neg (by omega), if_pos h3])
    go_enter Try.func55, Try.ntmps55
    go_wp2
    go_ret
    exact ⟨ret_int HV.out.symm, ba _ _⟩
  · have HV : Hid (oddM k n = 0) := Lib.hid (by unfold oddM; rw [if_neg (by omega), if_neg h3])
    go_enter Try.func55, Try.ntmps55
    go_wp2
    go_ret
    exact ⟨ret_int HV.out.symm, ba _ _⟩
/-- How a kind is read. -/
def readFn (k : Int) : Value := if k = 0 then .func (.func 93) #[] #[] else if k = 1 then .func (.func 94) #[] #[] else if k = 3 then .func (.func 95) #[] #[] else if k = 4 then .func (.func 96) #[] #[] else .nilFunc
@[reducible] def readMap : Array MapEntry := #[⟨.int .i64 0, .func (.func 93) #[] #[], 0⟩, ⟨.int .i64 1, .func (.func 94) #[] #[], 1⟩, ⟨.int .i64 3, .func (.func 95) #[] #[], 2⟩, ⟨.int .i64 4, .func (.func 96) #[] #[], 3⟩]
theorem readMap_look (k : Int) (w : World) : (Instr.lookup 162 (.map (some w.heap.size)) (.int .i64 k) false).run Try.prog (w.alloc (Obj.map readMap 4)) = .ok (readFn k) (w.alloc (Obj.map readMap 4)) := by
  have hb := heap_alloc_new w (Obj.map readMap 4)
  unfold readFn
  by_cases h0 : k = 0
  · subst h0; rw [if_pos rfl]; exact run_look_map Try.underlying162 Try.underlying3 _ _ _ _ hb 0 0 _ rfl
  rw [if_neg h0]
  by_cases h1 : k = 1
  · subst h1; rw [if_pos rfl]; exact run_look_map Try.underlying162 Try.underlying3 _ _ _ _ hb 1 1 _ rfl
  rw [if_neg h1]
  by_cases h3 : k = 3
  · subst h3; rw [if_pos rfl]; exact run_look_map Try.underlying162 Try.underlying3 _ _ _ _ hb 3 2 _ rfl
  rw [if_neg h3]
  by_cases h4 : k = 4
  · subst h4; rw [if_pos rfl]; exact run_look_map Try.underlying162 Try.underlying3 _ _ _ _ hb 4 3 _ rfl
  rw [if_neg h4]
  refine run_look_none Try.underlying162 Try.underlying3 _ _ _ _ hb k _ (by kernel_rfl) ?_
  have b0 : (k == 0) = false := by rw [beq_eq_false_iff_ne]; exact h0
  have b1 : (k == 1) = false := by rw [beq_eq_false_iff_ne]; exact h1
  have b3 : (k == 3) = false := by rw [beq_eq_false_iff_ne]; exact h3
  have b4 : (k == 4) = false := by rw [beq_eq_false_iff_ne]; exact h4
  simp [Instr.findNow, Instr.sameNow, b0, b1, b3, b4]
theorem reader_any (k : Int) (w : World) : Calls Try.prog 56 #[.int .i64 k] w fun e w' => e = .returned (readFn k) ∧ Below w.heap.size w w' := by
  have hmm := @run_makeMap Try.prog
  have i0 := fun W : World => run_insert_new Try.underlying162 Try.underlying3 W #[] 0 0 (.func (.func 93) #[] #[]) rfl
  have i1 := fun W : World => run_insert_new Try.underlying162 Try.underlying3 W #[⟨.int .i64 0, .func (.func 93) #[] #[], 0⟩] 1 1 (.func (.func 94) #[] #[]) rfl
  have i2 := fun W : World => run_insert_new Try.underlying162 Try.underlying3 W #[⟨.int .i64 0, .func (.func 93) #[] #[], 0⟩, ⟨.int .i64 1, .func (.func 94) #[] #[], 1⟩] 2 3 (.func (.func 95) #[] #[]) rfl
  have i3 := fun W : World => run_insert_new Try.underlying162 Try.underlying3 W #[⟨.int .i64 0, .func (.func 93) #[] #[], 0⟩, ⟨.int .i64 1, .func (.func 94) #[] #[], 1⟩, ⟨.int .i64 3, .func (.func 95) #[] #[], 2⟩] 3 4 (.func (.func 96) #[] #[]) rfl
  have i4 := readMap_look k
  go_enter Try.func56, Try.ntmps56
  go_wp2
  go_ret
  exact ⟨rfl, ba _ _⟩
theorem textR_size (ys : List Int) (e : Int) : (textR ys e).1.size ≤ ys.length := by
  have hs : (sizeR ys e).2.1.length ≤ ys.length := by
    unfold sizeR
    split
    · simp
    · exact Nat.le_refl _
  unfold textR
  split
  · exact Nat.zero_le _
  · split
    · exact Nat.zero_le _
    · rw [strOfNums_size, List.length_take]; omega
theorem fieldsR_bd (n : Nat) (ys : List Int) (e : Int) : (∀ f ∈ (fieldsR n ys e).1, f.size ≤ ys.length) ∧ (e = 0 → 4 * (fieldsR n ys e).1.length ≤ ys.length + 4) ∧ (e ≠ 0 → (fieldsR n ys e).1 = []) := by
  induction n generalizing ys e with
  | zero => simp [fieldsR]
  | succ n ih =>
    by_cases he : e = 0
    · subst he
      rw [fieldsR, if_neg (by simp)]
      obtain ⟨i1, i2, i3⟩ := ih (textR ys 0).2.1 (textR ys 0).2.2
      have hl := textR_len ys 0
      refine ⟨fun f hf => ?_, fun _ => ?_, fun h => absurd rfl h⟩
      · rcases List.mem_cons.1 hf with rfl | hf
        · exact textR_size ys 0
        · exact Nat.le_trans (i1 f hf) hl.1
      · simp only [List.length_cons]
        by_cases h2 : (textR ys 0).2.2 = 0
        · have := i2 h2; have := hl.2 h2; omega
        · rw [i3 h2]; simp
    · rw [fieldsR, if_pos he]
      simp [he]
theorem commentR_bd (ys : List Int) : (commentR ys).1.size ≤ ys.length ∧ (∀ f ∈ (commentR ys).2.1, f.size ≤ ys.length) ∧ 4 * (commentR ys).2.1.length ≤ ys.length + 4 := by
  have h1 := textR_size ys 0
  have h2 := (textR_len ys 0).1
  have h3 : (sizeR (textR ys 0).2.1 (textR ys 0).2.2).2.1.length ≤ (textR ys 0).2.1.length := by
    unfold sizeR
    split
    · simp
    · exact Nat.le_refl _
  obtain ⟨i1, i2, i3⟩ := fieldsR_bd (sizeR (textR ys 0).2.1 (textR ys 0).2.2).1.toNat (sizeR (textR ys 0).2.1 (textR ys 0).2.2).2.1 (sizeR (textR ys 0).2.1 (textR ys 0).2.2).2.2
  refine ⟨h1, fun f hf => Nat.le_trans (i1 f hf) (by omega), ?_⟩
  show 4 * (fieldsR _ _ _).1.length ≤ _
  by_cases h : (sizeR (textR ys 0).2.1 (textR ys 0).2.2).2.2 = 0
  · have := i2 h; omega
  · rw [i3 h]; simp
theorem fn_eql (f : Nat) (W : World) : (binOp .eql 107 (.func (.func f) #[] #[]) .nilFunc).run Try.prog W = .ok (.bool false) W := by kernel_rfl
theorem fn_eql_nil (W : World) : (binOp .eql 107 .nilFunc .nilFunc).run Try.prog W = .ok (.bool true) W := by kernel_rfl
/-- A comment that is read: who made it, fields, what is wrong. -/
def readC (ys : List Int) : ByteArray × List ByteArray × Int :=
  if (commentR ys).2.2 ≠ 0 then (⟨#[]⟩, [], (commentR ys).2.2) else if commentB (commentR ys).1 (commentR ys).2.1 then ((commentR ys).1, (commentR ys).2.1, 0) else (⟨#[]⟩, [], 6)
def ReadC (w : World) (ys : List Int) (e : Ending) (w' : World) : Prop :=
  ((readC ys).2.2 = 0 ∧ ∃ v, e = .returned (.tuple #[.iface 49 (.agg #[.string (readC ys).1, v]), .int .i64 0]) ∧ OwnS w' w.heap.size v (readC ys).2.1 ∧ Below w.heap.size w w') ∨
  ((readC ys).2.2 ≠ 0 ∧ e = .returned (.tuple #[.nilIface, .int .i64 (readC ys).2.2]) ∧ Below w.heap.size w w')
set_option maxHeartbeats 2000000 in
theorem ReadC_any (A : Option Addr) (c : Nat) (ys : List Int) (w : World) (hr : ReadsInt w .u8 A ys.length ys) (hc : ys.length ≤ c) (hy : IsByte ys) (hA : ∀ ad, A = some ad → ad.block < w.heap.size) (hl : ys.length ≤ 1000000) :
    Calls Try.prog 15 #[.agg #[.int .i64 4, .slice A ys.length c]] w (ReadC w ys) := by
  have HR := Lib.hid hr; have HY := Lib.hid hy; have HA := Lib.hid hA
  have ho : oddM 4 ys.length = 0 := by unfold oddM; rw [if_neg (by omega), if_neg (by omega)]
  have HOD := Lib.hid ho
  have hbd := commentR_bd ys
  have HV : Hid (readC ys = if (commentR ys).2.2 ≠ 0 then (⟨#[]⟩, [], (commentR ys).2.2) else if commentB (commentR ys).1 (commentR ys).2.1 then ((commentR ys).1, (commentR ys).2.1, 0) else (⟨#[]⟩, [], 6)) := Lib.hid rfl
  obtain ⟨W0, hW0⟩ : ∃ W0, w.alloc (Obj.cells #[.int .i64 4, .slice A ys.length c] 39) = W0 := ⟨_, rfl⟩
  have hblk0 : W0.heap[w.heap.size]? = some (.cells #[.int .i64 4, .slice A ys.length c] 39 (0, 0)) := by rw [← hW0]; exact heap_alloc_new w _
  have hb0 : Below w.heap.size w W0 := by rw [← hW0]; exact ba _ _
  have HB0 := Lib.hid hblk0; have HBW0 := Lib.hid hb0; have HW0 := Lib.hid hW0; have HBD := Lib.hid hbd
  clear hr hy hA ho hbd hW0 hblk0 hb0
  have t3 := no_seek (T := 49) (by decide)
  have qf := fn_eql
  go_enter Try.func15, Try.ntmps15
  go_wp2_with fail
  rw [HW0.out]
  refine (oddM_any 4 A ys.length c W0).mono ?_
  rintro e w1 ⟨rfl, hb1⟩
  rw [HOD.out]
  have b1 := blk_below HB0.out hb1
  have c0 := blk_cell b1 0
  simp only [List.getElem?_toArray, List.getElem?_cons_zero, List.getElem?_cons_succ] at c0
  have HB1 := Lib.hid b1
  have HBW1 := Lib.hid (bt HBW0.out hb1)
  clear b1 hb1
  go_wp2_with fail
  refine (reader_any 4 w1).mono ?_
  rintro e w2 ⟨rfl, hb2⟩
  have b2 := blk_below HB1.out hb2
  have c1 := blk_cell b2 1
  simp only [List.getElem?_toArray, List.getElem?_cons_zero, List.getElem?_cons_succ] at c1
  have HBW2 := Lib.hid (bt HBW1.out hb2)
  have hrf : readFn 4 = .func (.func 96) #[] #[] := rfl
  rw [hrf]
  clear b2 hb2 c0 hrf
  go_wp2_with fail
  refine (readComment_any A c ys w2 (HR.out.below HBW2.out) hc HY.out (fun ad h => Nat.lt_of_lt_of_le (HA.out ad h) HBW2.out.size) (by omega)).mono ?_
  rintro e w3 ⟨v3, rfl, hown3, hb3⟩
  obtain ⟨⟨mk, fs, er⟩, hcr⟩ : ∃ t, commentR ys = t := ⟨_, rfl⟩
  have hbd := HBD.out
  rw [hcr] at hbd hown3 HV
  rw [hcr]
  dsimp only at hbd hown3 HV ⊢
  obtain ⟨A3, c3, hv3, hrd3⟩ := own_reads_of (d := ByteArray.empty) hown3
  subst hv3
  have HO3 := Lib.hid hown3; have HR3 := Lib.hid hrd3
  have HBW3 := Lib.hid (bt HBW2.out hb3)
  obtain ⟨hbd1, hbd2, hbd3⟩ := hbd
  have hmk : mk.size ≤ 1000000 := by omega
  have HFS : Hid (∀ f ∈ fs, f.size ≤ 1000000) := Lib.hid (fun f hf => Nat.le_trans (hbd2 f hf) hl)
  have hfl : fs.length ≤ 1000000 := by omega
  have hs23 : w.heap.size ≤ w2.heap.size := HBW2.out.size
  clear hcr hown3 hrd3 hb3 c1 hbd1 hbd2 hbd3 qf
  by_cases he : er = 0
  · subst he
    cases hcb : commentB mk fs
    · have HX : Hid (readC ys = (⟨#[]⟩, [], 6)) := Lib.hid (by rw [HV.out, if_neg (by simp), hcb]; rfl)
      have hw := writtenComment_any mk A3 fs.length c3 fs w3 HR3.out hfl hmk HFS.out
      rw [hcb] at hw
      have HW := Lib.hid hw
      clear hcb hw
      go_wp2_with fail
      refine HW.out.mono ?_
      rintro e w4 ⟨v4, rfl, hown4, hb4⟩
      obtain ⟨A4, c4, hv4, hrd4⟩ := own_reads hown4
      subst hv4
      clear hown4 hrd4
      go_wp2
      go_ret2
      exact .inr ⟨by rw [HX.out]; decide, by rw [HX.out]; rfl, bt HBW3.out (bt hb4 (ba _ _))⟩
    · have HX : Hid (readC ys = (mk, fs, 0)) := Lib.hid (by rw [HV.out, if_neg (by simp), hcb]; rfl)
      have hw := writtenComment_any mk A3 fs.length c3 fs w3 HR3.out hfl hmk HFS.out
      rw [hcb] at hw
      have HW := Lib.hid hw
      clear hcb hw
      go_wp2_with fail
      refine HW.out.mono ?_
      rintro e w4 ⟨v4, rfl, hown4, hb4⟩
      obtain ⟨A4, c4, hv4, hrd4⟩ := own_reads hown4
      subst hv4
      have HB4 := Lib.hid hb4
      clear hown4 hrd4 hb4
      go_wp2
      go_ret2
      refine .inl ⟨by rw [HX.out], .slice A3 fs.length c3, by rw [HX.out]; rfl, ?_, bt HBW3.out (bt HB4.out (ba _ _))⟩
      rw [HX.out]
      exact own_weaken (pw_own_below HO3.out (bt HB4.out (ba _ _))) hs23
  · have HX : Hid (readC ys = (⟨#[]⟩, [], er)) := Lib.hid (by rw [HV.out, if_pos he])
    have heb : (er != 0) = true := by rw [bne_iff_ne]; exact he
    have heb2 : (er == 0) = false := by rw [beq_eq_false_iff_ne]; exact he
    have HE := Lib.hid he
    clear he
    go_wp2
    go_ret2
    exact .inr ⟨by rw [HX.out]; exact HE.out, by rw [HX.out]; rfl, HBW3.out⟩
end Go.Proofs.Ytdpgojcljlfnbaa
end
section
/- The chapter's example of layer 18. -/
set_option linter.unusedVariables false
set_option linter.unusedSimpArgs false
set_option maxRecDepth 100000
namespace Go.Proofs.Ytdpgojcljlfnbaa
open Go.RowKit
open Go.Proofs.YtdpgojcljlfnbaaW.PrintWords

def exMk : ByteArray := ⟨#[109, 101]⟩
def exFs : List ByteArray := [⟨#[65, 61, 98]⟩]
def exBody : List Int := [2, 0, 0, 0, 109, 101, 1, 0, 0, 0, 3, 0, 0, 0, 65, 61, 98]
theorem ex_res : commentRes exMk exFs = (4, exBody, 0) := by kernel_rfl
theorem ex_read : readC exBody = (exMk, exFs, 0) := by kernel_rfl
theorem exBody_byte : IsByte exBody := by
  intro y hy
  simp only [exBody, List.mem_cons, List.not_mem_nil, or_false] at hy
  omega
theorem own_slice_lt {w : World} {base n : Nat} {e : TypeId} {sz : Nat} {v : Value} {xs : List Value} (h : w.ownsRow base e sz v n xs) {A : Option Addr} {m c : Nat} (hv : v = .slice A m c) : ∀ ad, A = some ad → ad.block < w.heap.size := by
  intro ad ha
  subst ha
  have := own_lt h ad.block (by rw [hv]; rfl)
  exact this
theorem own_slice_cap {w : World} {base n : Nat} {e : TypeId} {sz : Nat} {v : Value} {xs : List Value} (h : w.ownsRow base e sz v n xs) {A : Option Addr} {m c : Nat} (hv : v = .slice A m c) : m ≤ c := by
  obtain ⟨A', c', hv', hc⟩ : ∃ A' c', v = .slice A' n c' ∧ n ≤ c' := by
    rcases h.2 with ⟨h1, h2⟩ | ⟨g, cap, cur, rfl, _, _, hnc, _⟩
    · exact ⟨none, 0, by rw [h1, h2], by omega⟩
    · exact ⟨_, _, rfl, hnc⟩
  rw [hv] at hv'
  injection hv' with h1 h2 h3
  omega
theorem ex_small : ∀ f ∈ exFs, f.size ≤ 1000000 := by
  intro f hf
  have h : f = ⟨#[65, 61, 98]⟩ := by simpa [exFs] using hf
  rw [h]
  decide
set_option maxHeartbeats 2000000 in
theorem awake18_any (w : World) : Calls Try.prog 14 #[] w fun e w' => e = .returned (.bool true) ∧ Below w.heap.size w w' := by
  have t4 := yes_comment
  have hs : ReadsS (w.alloc (Obj.cells #[.string ⟨#[65, 61, 98]⟩] 9)) (some ⟨w.heap.size, 0, none⟩) 1 exFs := by
    refine ⟨rfl, by decide, fun _ => ⟨_, rfl, fun j hj => ?_⟩⟩
    obtain rfl : j = 0 := by omega
    have h := heap_alloc_new w (Obj.cells #[.string ⟨#[65, 61, 98]⟩] 9)
    exact blk_cell h 0
  have HS := Lib.hid hs
  clear hs
  go_enter Try.func14, Try.ntmps14
  go_wp2_with fail
  refine (Comment_any exMk (some ⟨w.heap.size, 0, none⟩) 1 1 exFs _ HS.out (by decide) (by decide) ex_small).mono ?_
  rw [ex_res]
  rintro e w1 ⟨v1, rfl, hown1, hb1⟩
  dsimp only at hown1 ⊢
  obtain ⟨A1, c1, hv1, hrd1⟩ := own_reads hown1
  have hcap1 := own_slice_cap hown1 hv1
  have hlt1 := own_slice_lt hown1 hv1
  subst hv1
  have hbw1 : Below w.heap.size w w1 := bt (ba w _) hb1
  obtain ⟨W2, hW2⟩ : ∃ W2, w1.alloc (Obj.cells #[.int .i64 4, .slice A1 exBody.length c1] 39) = W2 := ⟨_, rfl⟩
  have hb2 : Below w1.heap.size w1 W2 := by rw [← hW2]; exact ba _ _
  have hB2 : W2.heap[w1.heap.size]? = some (.cells #[.int .i64 4, .slice A1 exBody.length c1] 39 (0, 0)) := by rw [← hW2]; exact heap_alloc_new w1 _
  have HR2 := Lib.hid (hrd1.below hb2); have HB2 := Lib.hid hB2; have HBW2 := Lib.hid (bt hbw1 hb2); have HW2 := Lib.hid hW2
  have HLT := Lib.hid (fun ad (e : A1 = some ad) => Nat.lt_of_lt_of_le (hlt1 ad e) hb2.size)
  clear hown1 hrd1 hb1 hlt1 hbw1 hb2 hB2 hW2
  go_wp2_with fail
  rw [HW2.out]
  refine (ReadC_any A1 c1 exBody W2 HR2.out hcap1 exBody_byte HLT.out (by decide)).mono ?_
  rintro e w3 h3
  unfold ReadC at h3
  rw [ex_read] at h3
  dsimp only at h3
  obtain ⟨_, v3, rfl, hown3, hb3⟩ | ⟨h3, _⟩ := h3
  case inr => exact absurd rfl h3
  obtain ⟨A3, c3, hv3, hrd3⟩ := own_reads_of (d := ByteArray.empty) hown3
  subst hv3
  have b3 := blk_below HB2.out hb3
  have HR3 := Lib.hid (HR2.out.below hb3)
  have HBW3 := Lib.hid (bt HBW2.out hb3)
  have HB3 := Lib.hid b3
  clear hown3 hrd3 hb3 b3 hcap1
  have hmk : exMk.toList = [109, 101] := by rw [ByteArray.toList_eq]; rfl
  obtain ⟨W4, hW4⟩ : ∃ W4, w3.alloc (Obj.cells #[.string exMk, .slice A3 exFs.length c3] 49) = W4 := ⟨_, rfl⟩
  have hb4 : Below w3.heap.size w3 W4 := by rw [← hW4]; exact ba _ _
  have b4 := blk_below HB3.out hb4
  have c0 : (w3.alloc (Obj.cells #[.string exMk, .slice A3 exFs.length c3] 49)).cell? ⟨w1.heap.size, 0, none⟩ = some (.int .i64 4) := by rw [hW4]; exact blk_cell b4 0
  have c1' : (w3.alloc (Obj.cells #[.string exMk, .slice A3 exFs.length c3] 49)).cell? ⟨w1.heap.size, 1, none⟩ = some (.slice A1 exBody.length c1) := by rw [hW4]; exact blk_cell b4 1
  have HR4 := Lib.hid (HR3.out.below hb4)
  have HBW4 := Lib.hid (bt HBW3.out hb4)
  have HW4 := Lib.hid hW4; have HB4 := Lib.hid b4
  clear hb4 b4 hW4
  go_wp2_with fail
  rw [HW4.out]
  have hz4 : W4.heap.size = w3.heap.size + 1 := by rw [← HW4.out, World.size_alloc]
  have hlit := own_lit W4 W4.heap.size 5 .u8 exBody (Nat.le_refl _) (by decide)
  have hb5 : Below W4.heap.size W4 (W4.alloc (Obj.cells (nums .u8 exBody).toArray 5)) := ba _ _
  rw [hz4] at hlit
  clear c0 c1'
  refine (Same_any A1 exBody.length c1 exBody (some ⟨w3.heap.size + 1, 0, none⟩) 17 17 exBody _ (HR4.out.below hb5) (own_rd hlit rfl)).mono ?_
  rintro e w6 ⟨rfl, hb6⟩
  have b6 := blk_below (blk_below HB4.out hb5) hb6
  have c0 := blk_cell b6 0
  simp only [List.getElem?_toArray, List.getElem?_cons_zero, List.getElem?_cons_succ] at c0
  have hbw6 := bt HBW4.out (bt hb5 hb6)
  have hdt : decide (exBody = exBody) = true := decide_eq_true rfl
  rw [hdt]
  clear hlit hb5 hb6 b6 hz4 hdt
  go_wp2
  go_ret
  exact ⟨rfl, hbw6⟩
end Go.Proofs.Ytdpgojcljlfnbaa
end
