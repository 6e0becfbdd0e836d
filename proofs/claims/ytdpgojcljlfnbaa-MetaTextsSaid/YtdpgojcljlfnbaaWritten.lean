/- Contracts of meta.written and meta.Comment of a comment; up to a million fields of up to a million bytes. -/
import Derived.Test.YtdpgojcljlfnbaaComment2
--DEV
set_option linter.unusedVariables false
set_option linter.unusedSimpArgs false
set_option maxRecDepth 100000
namespace Go.Proofs.Ytdpgojcljlfnbaa
open Go.RowKit
open Go.Proofs.YtdpgojcljlfnbaaW.PrintWords

@[reducible] def infoZero : Value := .agg #[.int .i64 0, .int .i64 0, .int .i64 0, .int .i64 0, .int .i64 0, .int .i64 0, .int .i64 0, .int .i64 0, .int .u8 0, .int .u8 0, .int .u8 0, .int .u8 0, .int .u8 0, .int .u8 0, .int .u8 0, .int .u8 0, .int .u8 0, .int .u8 0, .int .u8 0, .int .u8 0, .int .u8 0, .int .u8 0, .int .u8 0, .int .u8 0]
@[reducible] def metaZero : Value := .agg #[.int .i64 0, .slice none 0 0]
@[reducible] def commentZero : Value := .agg #[.string ⟨#[]⟩, .slice none 0 0]
theorem zv_info (w : World) : (zeroValue 44).run Try.prog w = .ok infoZero w := by kernel_rfl
theorem zv_pad (w : World) : (zeroValue 55).run Try.prog w = .ok (.int .i64 0) w := by kernel_rfl
theorem zv_seek (w : World) : (zeroValue 46).run Try.prog w = .ok (.slice none 0 0) w := by kernel_rfl
theorem zv_comment (w : World) : (zeroValue 49).run Try.prog w = .ok commentZero w := by kernel_rfl
theorem zv_meta (w : World) : (zeroValue 39).run Try.prog w = .ok metaZero w := by kernel_rfl
/-- Another type is asserted: there is none. -/
theorem ta_no {T asserted : TypeId} {z : Value} (d : TypeDesc) (hd : Try.prog.underlying asserted = some d) (hi : ∀ ms, d ≠ .interface ms) (hne : T ≠ asserted) (hz : ∀ w, (zeroValue asserted).run Try.prog w = .ok z w) (v : Value) (w : World) :
    (Instr.typeAssert (.iface T v) 20 asserted true).run Try.prog w = .ok (.tuple #[z, .bool false]) w := by
  unfold Instr.typeAssert
  simp only [Sem.run_bind, run_underlying hd, Result.andThen]
  cases d <;> first | (exact absurd rfl (hi _)) | simp [hne, hz, Result.andThen]
theorem ta_nil {asserted : TypeId} {z : Value} (d : TypeDesc) (hd : Try.prog.underlying asserted = some d) (hi : ∀ ms, d ≠ .interface ms) (hz : ∀ w, (zeroValue asserted).run Try.prog w = .ok z w) (w : World) :
    (Instr.typeAssert .nilIface 20 asserted true).run Try.prog w = .ok (.tuple #[z, .bool false]) w := by
  unfold Instr.typeAssert
  simp only [Sem.run_bind, run_underlying hd, Result.andThen]
  cases d <;> first | (exact absurd rfl (hi _)) | simp [hz, Result.andThen]
theorem ta_yes {T : TypeId} (d : TypeDesc) (hd : Try.prog.underlying T = some d) (hi : ∀ ms, d ≠ .interface ms) (v : Value) (w : World) :
    (Instr.typeAssert (.iface T v) 20 T true).run Try.prog w = .ok (.tuple #[v, .bool true]) w := by
  unfold Instr.typeAssert
  simp only [Sem.run_bind, run_underlying hd, Result.andThen]
  cases d <;> first | (exact absurd rfl (hi _)) | simp
def MetaRes (w0 : World) (k : Int) (body : List Int) (err : Int) (e : Ending) (w' : World) : Prop := ∃ v, e = .returned (.tuple #[.agg #[.int .i64 k, v], .int .i64 err]) ∧ OwnI w' w0.heap.size 5 .u8 v body ∧ Below w0.heap.size w0 w'
/-- What another type than the asserted one gives, for each of the five. -/
theorem no_info {T : TypeId} (h : T ≠ 44) (v : Value) (w : World) : (Instr.typeAssert (.iface T v) 20 44 true).run Try.prog w = .ok (.tuple #[infoZero, .bool false]) w := ta_no _ Try.underlying44 (by intro ms h; cases h) h zv_info v w
theorem no_pad {T : TypeId} (h : T ≠ 55) (v : Value) (w : World) : (Instr.typeAssert (.iface T v) 20 55 true).run Try.prog w = .ok (.tuple #[.int .i64 0, .bool false]) w := ta_no _ Try.underlying55 (by intro ms h; cases h) h zv_pad v w
theorem no_seek {T : TypeId} (h : T ≠ 46) (v : Value) (w : World) : (Instr.typeAssert (.iface T v) 20 46 true).run Try.prog w = .ok (.tuple #[.slice none 0 0, .bool false]) w := ta_no _ Try.underlying46 (by intro ms h; cases h) h zv_seek v w
theorem no_comment {T : TypeId} (h : T ≠ 49) (v : Value) (w : World) : (Instr.typeAssert (.iface T v) 20 49 true).run Try.prog w = .ok (.tuple #[commentZero, .bool false]) w := ta_no _ Try.underlying49 (by intro ms h; cases h) h zv_comment v w
theorem no_meta {T : TypeId} (h : T ≠ 39) (v : Value) (w : World) : (Instr.typeAssert (.iface T v) 20 39 true).run Try.prog w = .ok (.tuple #[metaZero, .bool false]) w := ta_no _ Try.underlying39 (by intro ms h; cases h) h zv_meta v w
theorem yes_info (v : Value) (w : World) : (Instr.typeAssert (.iface 44 v) 20 44 true).run Try.prog w = .ok (.tuple #[v, .bool true]) w := ta_yes _ Try.underlying44 (by intro ms h; cases h) v w
theorem yes_pad (v : Value) (w : World) : (Instr.typeAssert (.iface 55 v) 20 55 true).run Try.prog w = .ok (.tuple #[v, .bool true]) w := ta_yes _ Try.underlying55 (by intro ms h; cases h) v w
theorem yes_seek (v : Value) (w : World) : (Instr.typeAssert (.iface 46 v) 20 46 true).run Try.prog w = .ok (.tuple #[v, .bool true]) w := ta_yes _ Try.underlying46 (by intro ms h; cases h) v w
theorem yes_comment (v : Value) (w : World) : (Instr.typeAssert (.iface 49 v) 20 49 true).run Try.prog w = .ok (.tuple #[v, .bool true]) w := ta_yes _ Try.underlying49 (by intro ms h; cases h) v w
theorem yes_meta (v : Value) (w : World) : (Instr.typeAssert (.iface 39 v) 20 39 true).run Try.prog w = .ok (.tuple #[v, .bool true]) w := ta_yes _ Try.underlying39 (by intro ms h; cases h) v w

set_option maxHeartbeats 2000000 in
theorem writtenComment_any (mk : ByteArray) (A : Option Addr) (n c : Nat) (fs : List ByteArray) (w : World) (hr : ReadsS w A n fs) (hn : n ≤ 1000000) (hm : mk.size ≤ 1000000) (hf : ∀ f ∈ fs, f.size ≤ 1000000) :
    Calls Try.prog 58 #[.iface 49 (.agg #[.string mk, .slice A n c])] w (if commentB mk fs then MetaRes w 4 (commentL mk fs) 0 else MetaRes w 0 [] 6) := by
  have HR := Lib.hid hr; have HF := Lib.hid hf
  clear hr hf
  have t1 := no_info (T := 49) (by decide)
  have t2 := no_pad (T := 49) (by decide)
  have t3 := no_seek (T := 49) (by decide)
  have t4 := yes_comment
  obtain ⟨W3, hW3⟩ : ∃ W3, ((w.alloc (Obj.cells #[.int .i64 0, .slice none 0 0] 39)).alloc (Obj.cells #[.int .i64 0, .slice none 0 0] 39)).alloc (Obj.cells #[.string mk, .slice A n c] 49) = W3 := ⟨_, rfl⟩
  have hb3 : Below w.heap.size w W3 := by rw [← hW3]; exact below_alloc (below_alloc (ba w _) _) _
  have hB2 : W3.heap[w.heap.size]? = some (.cells #[.int .i64 0, .slice none 0 0] 39 (0, 0)) := by rw [← hW3]; exact blk_below (blk_below (heap_alloc_new w _) (ba _ _)) (ba _ _)
  have hB4 : W3.heap[w.heap.size + 1]? = some (.cells #[.int .i64 0, .slice none 0 0] 39 (0, 0)) := by rw [← hW3]; have h := heap_alloc_new (w.alloc (Obj.cells #[.int .i64 0, .slice none 0 0] 39)) (Obj.cells #[.int .i64 0, .slice none 0 0] 39); rw [World.size_alloc] at h; exact blk_below h (ba _ _)
  have hB9 : W3.heap[w.heap.size + 1 + 1]? = some (.cells #[.string mk, .slice A n c] 49 (0, 0)) := by rw [← hW3]; have h := heap_alloc_new ((w.alloc (Obj.cells #[.int .i64 0, .slice none 0 0] 39)).alloc (Obj.cells #[.int .i64 0, .slice none 0 0] 39)) (Obj.cells #[.string mk, .slice A n c] 49); rw [World.size_alloc, World.size_alloc] at h; exact h
  have HB3 := Lib.hid hb3; have HB2 := Lib.hid hB2; have HB4 := Lib.hid hB4; have HB9 := Lib.hid hB9
  have HW3 := Lib.hid hW3
  clear hb3 hB2 hB4 hB9 hW3
  cases hc : commentB mk fs
  · have HC := Lib.hid hc
    clear hc
    go_enter Try.func58, Try.ntmps58
    go_wp2_with fail
    rw [HW3.out]
    refine (commentRight_any mk A n c fs W3 (HR.out.below HB3.out) hn hm HF.out).mono ?_
    rintro e w4 ⟨rfl, hb4⟩
    rw [HC.out]
    have b2 := blk_below HB2.out hb4
    have c0 := blk_cell b2 0
    have c1 := blk_cell b2 1
    have f0 := blk_frozen b2 0
    have f1 := blk_frozen b2 1
    have HQ := Lib.hid b2
    simp only [List.getElem?_toArray, List.getElem?_cons_zero, List.getElem?_cons_succ] at c0 c1
    clear b2
    go_wp2
    refine bodyPost_ret (v := .tuple #[.agg #[.int .i64 0, .slice none 0 0], .int .i64 6]) (by simp [results, Try.results58, go_sem, c0, c1]) rfl ?_
    refine ⟨.slice none 0 0, rfl, own_nil _ _ _ _, ?_⟩
    exact ((bt HB3.out hb4).setCell (Nat.le_refl _) _).setCell (Nat.le_refl _) _
  · have HC := Lib.hid hc
    clear hc
    go_enter Try.func58, Try.ntmps58
    go_wp2_with fail
    rw [HW3.out]
    refine (commentRight_any mk A n c fs W3 (HR.out.below HB3.out) hn hm HF.out).mono ?_
    rintro e w4 ⟨rfl, hb4⟩
    rw [HC.out]
    have b9 := blk_below HB9.out hb4
    have c0 := blk_cell b9 0
    have c1 := blk_cell b9 1
    simp only [List.getElem?_toArray, List.getElem?_cons_zero, List.getElem?_cons_succ] at c0 c1
    clear b9
    go_wp2_with fail
    refine (commentBody_any mk A n c fs w4 (HR.out.below (bt HB3.out hb4)) hn hm HF.out).mono ?_
    rintro e w5 ⟨v5, rfl, hown5, hb5⟩
    have HO5 := Lib.hid hown5
    have hb45 := bt hb4 hb5
    have b4 := blk_below HB4.out hb45
    have b2 := blk_below HB2.out hb45
    obtain ⟨A5, c5, hv5, hrd5⟩ := own_reads hown5
    subst hv5
    clear c0 c1
    have c0 := blk_cell b2 0
    have c1 := blk_cell b2 1
    have f0 := blk_frozen b2 0
    have f1 := blk_frozen b2 1
    have d0 := blk_cell b4 0
    have d1 := blk_cell b4 1
    have g0 := blk_frozen b4 0
    have g1 := blk_frozen b4 1
    simp only [List.getElem?_toArray, List.getElem?_cons_zero, List.getElem?_cons_succ] at c0 c1 d0 d1
    have HQ2 := Lib.hid b2; have HQ4 := Lib.hid b4
    clear b2 b4 hown5 hrd5
    go_wp2
    have hB := bt HB3.out hb45
    have o1 := own_setCell (p := ⟨w.heap.size + 1, 0, none⟩) HO5.out (own_ne HO5.out HQ4.out (by decide)) (.int .i64 4)
    have m1 := blk_set HQ4.out 0 (.int .i64 4)
    have o2 := own_setCell (p := ⟨w.heap.size + 1, 1, none⟩) o1 (own_ne o1 m1 (by decide)) (.slice A5 (commentL mk fs).length c5)
    have m2 := blk_set m1 1 (.slice A5 (commentL mk fs).length c5)
    have r1 := blk_far (blk_far HQ2.out (p := ⟨w.heap.size + 1, 0, none⟩) (by simp) (.int .i64 4)) (p := ⟨w.heap.size + 1, 1, none⟩) (by simp) (.slice A5 (commentL mk fs).length c5)
    have o3 := own_setCell (p := ⟨w.heap.size, 0, none⟩) o2 (own_ne o2 r1 (by decide)) (.int .i64 4)
    have r2 := blk_set r1 0 (.int .i64 4)
    have o4 := own_setCell (p := ⟨w.heap.size, 1, none⟩) o3 (own_ne o3 r2 (by decide)) (.slice A5 (commentL mk fs).length c5)
    refine bodyPost_ret (v := .tuple #[.agg #[.int .i64 4, .slice A5 (commentL mk fs).length c5], .int .i64 0]) (by simp [results, Try.results58, go_sem, c0, c1, d0, d1]) rfl ?_
    refine ⟨.slice A5 (commentL mk fs).length c5, rfl, own_weaken o4 (by have := hb4.size; have := HB3.out.size; omega), ?_⟩
    exact (((hB.setCell (by simp) _).setCell (by simp) _).setCell (Nat.le_refl _) _).setCell (Nat.le_refl _) _
/-- What stands behind the call: a result that lies in a cell. -/
theorem wrap_Comment (mk : ByteArray) (A : Option Addr) (n c : Nat) (k : Int) (body : List Int) (err : Int) (w : World)
    (hc : ∀ W, Below w.heap.size w W → Calls Try.prog 58 #[.iface 49 (.agg #[.string mk, .slice A n c])] W (MetaRes W k body err)) :
    Calls Try.prog 32 #[.agg #[.string mk, .slice A n c]] w (MetaRes w k body err) := by
  have HC := Lib.hid hc
  clear hc
  obtain ⟨W2, hW2⟩ : ∃ W2, ((w.alloc (Obj.cells #[.string mk, .slice A n c] 49)).alloc (Obj.cells #[.int .i64 0, .slice none 0 0] 39)) = W2 := ⟨_, rfl⟩
  have hb2 : Below w.heap.size w W2 := by rw [← hW2]; exact below_alloc (ba w _) _
  have hB : W2.heap[w.heap.size + 1]? = some (.cells #[.int .i64 0, .slice none 0 0] 39 (0, 0)) := by rw [← hW2]; have h := heap_alloc_new (w.alloc (Obj.cells #[.string mk, .slice A n c] 49)) (Obj.cells #[.int .i64 0, .slice none 0 0] 39); rw [World.size_alloc] at h; exact h
  have HW2 := Lib.hid hW2; have HB := Lib.hid hB; have HB2 := Lib.hid hb2
  clear hW2 hb2 hB
  go_enter Try.func32, Try.ntmps32
  go_wp2_with fail
  rw [HW2.out]
  refine (HC.out W2 HB2.out).mono ?_
  rintro e w3 ⟨v3, rfl, hown3, hb3⟩
  obtain ⟨A3, c3, hv3, hrd3⟩ := own_reads hown3
  subst hv3
  have b := blk_below HB.out hb3
  have c0 := blk_cell b 0
  have c1 := blk_cell b 1
  have f0 := blk_frozen b 0
  have f1 := blk_frozen b 1
  simp only [List.getElem?_toArray, List.getElem?_cons_zero, List.getElem?_cons_succ] at c0 c1
  have HQ := Lib.hid b; have HO := Lib.hid hown3
  clear b hown3 hrd3
  go_wp2
  have o1 := own_setCell (p := ⟨w.heap.size + 1, 0, none⟩) HO.out (own_ne HO.out HQ.out (by decide)) (.int .i64 k)
  have m1 := blk_set HQ.out 0 (.int .i64 k)
  have o2 := own_setCell (p := ⟨w.heap.size + 1, 1, none⟩) o1 (own_ne o1 m1 (by decide)) (.slice A3 body.length c3)
  refine bodyPost_ret (v := .tuple #[.agg #[.int .i64 k, .slice A3 body.length c3], .int .i64 err]) (by simp [results, Try.results32, go_sem, c0, c1]) rfl ?_
  exact ⟨.slice A3 body.length c3, rfl, own_weaken o2 HB2.out.size, ((bt HB2.out hb3).setCell (by simp) _).setCell (by simp) _⟩
def commentRes (mk : ByteArray) (fs : List ByteArray) : Int × List Int × Int := if commentB mk fs then (4, commentL mk fs, 0) else (0, [], 6)
theorem Comment_any (mk : ByteArray) (A : Option Addr) (n c : Nat) (fs : List ByteArray) (w : World) (hr : ReadsS w A n fs) (hn : n ≤ 1000000) (hm : mk.size ≤ 1000000) (hf : ∀ f ∈ fs, f.size ≤ 1000000) :
    Calls Try.prog 32 #[.agg #[.string mk, .slice A n c]] w (MetaRes w (commentRes mk fs).1 (commentRes mk fs).2.1 (commentRes mk fs).2.2) := by
  refine wrap_Comment mk A n c _ _ _ w fun W hb => ?_
  have h := writtenComment_any mk A n c fs W (hr.below hb) hn hm hf
  unfold commentRes
  cases hc : commentB mk fs <;> rw [hc] at h <;> exact h
end Go.Proofs.Ytdpgojcljlfnbaa
