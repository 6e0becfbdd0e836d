/- Contracts of functions that the law reaches: Comment2, Written. -/
import Derived.Test.YtdpgojcljlfnbaaPkField
import Derived.Test.YtdpgojcljlfnbaaPkBase
import Derived.Deep.RegionHeld3
section
/- The contract of meta.commentBody; comments of up to a million fields of up to a million bytes. -/
set_option linter.unusedVariables false
set_option linter.unusedSimpArgs false
set_option maxRecDepth 100000
namespace Go.Proofs.Ytdpgojcljlfnbaa
open Go.RowKit
open Go.Proofs.YtdpgojcljlfnbaaW.PrintWords

/-- A text behind its size. -/
def sizedL (s : ByteArray) : List Int := littleL s.size ++ bytesOf s
def sizedAll (fs : List ByteArray) : List Int := fs.flatMap sizedL
/-- A comment's body. -/
def commentL (mk : ByteArray) (fs : List ByteArray) : List Int := sizedL mk ++ littleL fs.length ++ sizedAll fs
theorem littleL_length (n : Int) : (littleL n).length = 4 := rfl
theorem sizedL_length (s : ByteArray) : (sizedL s).length = 4 + s.size := by rw [sizedL, List.length_append, littleL_length, bytesOf_length]
theorem sizedAll_snoc (fs : List ByteArray) (f : ByteArray) : sizedAll (fs ++ [f]) = sizedAll fs ++ sizedL f := by simp [sizedAll]
theorem sizedAll_length (fs : List ByteArray) : (sizedAll fs).length = fieldsSize fs := by
  induction fs with
  | nil => rfl
  | cons f fs ih => simp only [sizedAll, fieldsSize, List.flatMap_cons, List.length_append, sizedL_length, List.map_cons, List.sum_cons] at *; omega

set_option maxHeartbeats 2000000 in
theorem commentBody_any (mk : ByteArray) (A : Option Addr) (n c : Nat) (fs : List ByteArray) (w : World) (hr : ReadsS w A n fs) (hn : n ≤ 1000000) (hm : mk.size ≤ 1000000) (hf : ∀ f ∈ fs, f.size ≤ 1000000) :
    Calls Try.prog 103 #[.agg #[.string mk, .slice A n c]] w fun e w' => ∃ v, e = .returned v ∧ OwnI w' w.heap.size 5 .u8 v (commentL mk fs) ∧ Below w.heap.size w w' := by
  have HR := Lib.hid hr; have HF := Lib.hid hf
  have hl := hr.1
  clear hr hf
  subst hl
  obtain ⟨W0, hW0⟩ : ∃ W0, w.alloc (Obj.cells #[.string mk, .slice A fs.length c] 49) = W0 := ⟨_, rfl⟩
  have hblk0 : W0.heap[w.heap.size]? = some (.cells #[.string mk, .slice A fs.length c] 49 (0, 0)) := by rw [← hW0]; exact heap_alloc_new w _
  have hb0 : Below w.heap.size w W0 := by rw [← hW0]; exact ba _ _
  have HB0 := Lib.hid hblk0
  have hs0 : w.heap.size < W0.heap.size := blk_lt hblk0
  clear hblk0
  go_enter Try.func103, Try.ntmps103
  go_wp2_with fail
  clear hW0
  have HBD := Lib.hid (bd1 W0)
  have HB1 := Lib.hid (blk_below HB0.out HBD.out)
  have hk0 : W0.drew.cell? ⟨w.heap.size, 0, none⟩ = some (.string mk) := blk_cell HB1.out 0
  have HK0 := Lib.hid hk0
  clear hk0
  go_region_held3 (fun w' => w'.cell? ⟨w.heap.size, 0, none⟩ = some (.string mk)) (first | (with_reducible exact HK0.out) | (with_reducible assumption)) (first | ((refine step_append_str (w0 := w) (W := w1) w.heap.size rfl (.tmp 9) (.tmp 11) 37 9 5 rfl Try.underlying37 Try.underlying9 info_u8 v1 (littleL mk.size) mk rfl rfl (own_weaken hown1 (Nat.le_of_lt hs0)) (bt hb0 (bt HBD.out hb1)) (Nat.le_trans (Nat.le_of_lt hs0) hb1.size) (by rw [littleL_length]; omega) ?_); (intro v2 w2 hown2 hb2 hg2); have hk2 : w2.cell? ⟨w.heap.size, 0, none⟩ = some (.string mk) := (hg2.block w.heap.size (Nat.lt_of_lt_of_le hs0 hb1.size) (fun he => by have := own_base hown1 _ he.symm; exact absurd this (Nat.not_le_of_lt hs0)) |> fun e => (World.cell?_of_block (a := ⟨w.heap.size, 0, none⟩) e).trans hk1)) | (((with_reducible refine (little_any mk.size _ (by omega) (by omega)).mono ?_); (rintro e w1 ⟨v1, rfl, hown1, hb1⟩); have hk1 : w1.cell? ⟨w.heap.size, 0, none⟩ = some (.string mk) := pw_cell_below hb1 HK0.out)))
  try clear hHeld
  have hle1 : w.heap.size < w1.heap.size := Nat.lt_of_lt_of_le hs0 hb1.size
  have hne1 : some w.heap.size ≠ v1.ownBlock := fun he => by have := own_base hown1 _ he.symm; exact absurd this (Nat.not_le_of_lt hs0)
  have HB2 := Lib.hid ((hg2.block w.heap.size hle1 hne1).trans (blk_below HB1.out hb1))
  have hbw2 := Lib.hid hb2
  have HO2 := Lib.hid hown2
  have hs2 : w.heap.size < w2.heap.size := blk_lt HB2.out
  clear hown1 hb1 hk1 hown2 hb2 hg2 hk2 hle1 hne1
  have k1 : w2.cell? ⟨w.heap.size, 1, none⟩ = some (.slice A fs.length c) := blk_cell HB2.out 1
  have htot : fieldsSize fs ≤ 1000004 * 1000000 := Nat.le_trans (fieldsSize_bd fs HF.out) (Nat.mul_le_mul_left _ hn)
  have hmkl : (sizedL mk).length = 4 + mk.size := sizedL_length mk
  have HMKL := Lib.hid hmkl
  clear hmkl
  go_wp2_with fail
  refine (little_any fs.length w2 (by omega) (by omega)).mono ?_
  rintro e w3 ⟨v3, rfl, hown3, hb3⟩
  obtain ⟨A3, c3, rfl, hrd3⟩ := own_reads hown3
  have HR3 := Lib.hid hrd3
  have HO3 := Lib.hid (pw_own_below HO2.out hb3)
  have HBW3 := Lib.hid (bt hbw2.out hb3)
  have HB3 := Lib.hid (blk_below HB2.out hb3)
  have hs3 : w.heap.size ≤ w3.heap.size := Nat.le_trans (Nat.le_of_lt hs2) hb3.size
  have hne3 : w.heap.size < w3.heap.size := Nat.lt_of_lt_of_le hs2 hb3.size
  clear hown3 hrd3 hb3 k1
  go_wp2_with (at_builtin; refine print_append_row (w0 := w) (W := w3) w.heap.size rfl (.tmp 13) (.tmp 17) 37 5 .u8 1 rfl Try.underlying37 info_u8 (by decide) v2 (sizedL mk) (littleL fs.length) A3 4 c3 rfl rfl HO3.out HR3.out HBW3.out hs3 (by rw [HMKL.out]; omega) ?_; rintro v4 w4 hown4 hb4 hg4 hat4; have k4 : w4.cell? ⟨w.heap.size, 1, none⟩ = some (.slice A fs.length c) := ((World.cell?_of_block (a := ⟨w.heap.size, 1, none⟩) (hg4.block w.heap.size hne3 (own_ne HO3.out HB3.out (by decide)))).trans (blk_cell HB3.out 1)))
  obtain ⟨pre, hpre⟩ : ∃ pre, sizedL mk ++ littleL (fs.length : Int) = pre := ⟨_, rfl⟩
  have hprel : pre.length = 8 + mk.size := by rw [← hpre, List.length_append, HMKL.out, littleL_length]; omega
  have hfin : commentL mk fs = pre ++ sizedAll fs := by rw [← hpre]; rfl
  rw [hpre] at hown4
  have HO4 := Lib.hid hown4; have HBW4 := Lib.hid hb4; have HPL := Lib.hid hprel; have HFIN := Lib.hid hfin
  try clear hHeld
  clear hpre hown4 hb4 hg4 hat4 k4 hprel hfin
  go_loopw [3, 22] (fun v i wr => Hid (∃ j : Nat, j ≤ fs.length ∧ i = .int .i64 j ∧ wr.ownsRow w.heap.size 5 1 v (pre ++ sizedAll (fs.take j)).length (nums .u8 (pre ++ sizedAll (fs.take j))) ∧ Below w.heap.size w wr)) (fun _ i _ => fs.length - (intOf i).toNat)
  case atStart => exact Lib.hid ⟨0, Nat.zero_le _, rfl, by simpa [sizedAll] using HO4.out, HBW4.out⟩
  case round =>
    obtain ⟨j, hj, rfl, hown, hbr⟩ := hrel.out
    clear hrel
    have HO := Lib.hid hown
    clear hown
    by_cases hlt : j < fs.length
    · obtain ⟨ad, rfl, hc⟩ := rdS_nat (HR.out.below hbr) hlt
      have hts := takeS_snoc fs j hlt
      have hmem := getDS_mem fs j hlt
      obtain ⟨f, hf⟩ : ∃ f, fs.getD j ByteArray.empty = f := ⟨_, rfl⟩
      rw [hf] at hc hts hmem
      have hfz := HF.out f hmem
      have hsn : pre ++ sizedAll (fs.take (j + 1)) = (pre ++ sizedAll (fs.take j)) ++ littleL f.size ++ bytesOf f := by rw [hts, sizedAll_snoc, sizedL]; simp
      have hle : (pre ++ sizedAll (fs.take j)).length ≤ 2000000000000 := by
        rw [List.length_append, HPL.out, sizedAll_length]
        have h1 := fieldsSize_bd (fs.take j) fun x hx => HF.out x (List.mem_of_mem_take hx)
        have h2 : 1000004 * (fs.take j).length ≤ 1000004 * 1000000 := Nat.mul_le_mul_left _ (by rw [List.length_take]; omega)
        omega
      obtain ⟨L, hL⟩ : ∃ L, pre ++ sizedAll (fs.take j) = L := ⟨_, rfl⟩
      rw [hL] at hsn hle HO
      have HSN := Lib.hid hsn
      have hbs : w.heap.size ≤ wr.heap.size := hbr.size
      clear hf hts hmem hsn hL
      go_wp2_with fail
      refine (little_any f.size wr (by omega) (by omega)).mono ?_
      rintro e w5 ⟨v5, rfl, hown5, hb5⟩
      obtain ⟨A5, c5, rfl, hrd5⟩ := own_reads hown5
      have HR5 := Lib.hid hrd5
      have HO5 := Lib.hid (pw_own_below HO.out hb5)
      have HBW5 := Lib.hid (bt hbr hb5)
      have hs5 : w.heap.size ≤ w5.heap.size := HBW5.out.size
      clear hown5 hrd5 hb5 hc
      go_wp2_with (first | (at_builtin; refine print_append_str (w0 := w) (W := w6) w.heap.size rfl (.tmp 31) (.tmp 32) 37 9 5 rfl Try.underlying37 Try.underlying9 info_u8 v6 (L ++ littleL f.size) f rfl rfl hown6 hb6 hb6.size (by rw [List.length_append, littleL_length]; omega) ?_; rintro v7 w7 hown7 hb7 hg7) | (at_builtin; refine print_append_row (w0 := w) (W := w5) w.heap.size rfl (.tmp 26) (.tmp 29) 37 5 .u8 1 rfl Try.underlying37 info_u8 (by decide) u3 L (littleL f.size) A5 4 c5 rfl rfl HO5.out HR5.out HBW5.out hs5 (by omega) ?_; rintro v6 w6 hown6 hb6 hg6 hat6))
      go_roundw
      case rel => exact Lib.hid ⟨j + 1, by omega, by go_num, by rw [HSN.out]; exact hown7, hb7⟩
      case measure => simp [intOf]; omega
    · obtain rfl : j = fs.length := by omega
      go_wp2
      go_ret
      refine ⟨_, rfl, ?_, hbr⟩
      have h := HO.out
      rw [List.take_length, ← HFIN.out] at h
      exact h
end Go.Proofs.Ytdpgojcljlfnbaa
end
section
/- Contracts of meta.written and meta.Comment of a comment; up to a million fields of up to a million bytes. -/
set_option linter.unusedVariables false
set_option linter.unusedSimpArgs false
set_option maxRecDepth 100000
namespace Go.Proofs.Ytdpgojcljlfnbaa
open Go.RowKit
open Go.Proofs.YtdpgojcljlfnbaaW.PrintWords

@[reducible] def infoZero : Value := .agg #[.int .i64 0, .int .i64 0, .int .i64 0, .int .i64 0, .int .i64 0, .int .i64 0, .int .i64 0, .int .i64 0, .int .u8 0, .int .u8 0, .int .u8 0, .int .u8 0, .int .u8 0, .int .u8 0, .int .u8 0, .int .u8 0, .int .u8 0, .int .u8 0, .int .u8 0, .int .u8 0, .int .u8 0, .int .u8 0, .int .u8 0, .int .u8 0]
@[reducible] def metaZero : Value := .agg #[.int .i64 0, .slice none 0 0]
@[reducible] def commentZero : Value := .agg #[.string ⟨#[]⟩, .slice none 0 0]
theorem zv_info (w : World) : (zeroValue 44).run Try.prog w = .ok infoZero w := by kernel_rfl
theorem zv_pad (w : World) : (zeroValue 55).run Try.prog w = .ok (.int .i64 0) w := by kernel_rfl
theorem zv_seek (w : World) : (zeroValue 46).run Try.prog w = .ok (.slice none 0 0) w := by kernel_rfl
theorem zv_comment (w : World) : (zeroValue 49).run Try.prog w = .ok commentZero w := by kernel_rfl
theorem zv_meta (w : World) : (zeroValue 39).run Try.prog w = .ok metaZero w := by kernel_rfl
/-- Another type is asserted: there is none. -/
theorem ta_no {T asserted : TypeId} {z : Value} (d : TypeDesc) (hd : Try.prog.underlying asserted = some d) (hi : ∀ ms, d ≠ .interface ms) (hne : T ≠ asserted) (hz : ∀ w, (zeroValue asserted).run Try.prog w = .ok z w) (v : Value) (w : World) :
    (Instr.typeAssert (.iface T v) 20 asserted true).run Try.prog w = .ok (.tuple #[z, .bool false]) w := by
  unfold Instr.typeAssert
  simp only [Sem.run_bind, run_underlying hd, Result.andThen]
  cases d <;> first | (exact absurd rfl (hi _)) | simp [hne, hz, Result.andThen]
theorem ta_nil {asserted : TypeId} {z : Value} (d : TypeDesc) (hd : Try.prog.underlying asserted = some d) (hi : ∀ ms, d ≠ .interface ms) (hz : ∀ w, (zeroValue asserted).run Try.prog w = .ok z w) (w : World) :
    (Instr.typeAssert .nilIface 20 asserted true).run Try.prog w = .ok (.tuple #[z, .bool false]) w := by
  unfold Instr.typeAssert
  simp only [Sem.run_bind, run_underlying hd, Result.andThen]
  cases d <;> first | (exact absurd rfl (hi _)) | simp [hz, Result.andThen]
theorem ta_yes {T : TypeId} (d : TypeDesc) (hd : Try.prog.underlying T = some d) (hi : ∀ ms, d ≠ .interface ms) (v : Value) (w : World) :
    (Instr.typeAssert (.iface T v) 20 T true).run Try.prog w = .ok (.tuple #[v, .bool true]) w := by
  unfold Instr.typeAssert
  simp only [Sem.run_bind, run_underlying hd, Result.andThen]
  cases d <;> first | (exact absurd rfl (hi _)) | simp
def MetaRes (w0 : World) (k : Int) (body : List Int) (err : Int) (e : Ending) (w' : World) : Prop := ∃ v, e = .returned (.tuple #[.agg #[.int .i64 k, v], .int .i64 err]) ∧ OwnI w' w0.heap.size 5 .u8 v body ∧ Below w0.heap.size w0 w'
/-- What another type than the asserted one gives, for each of the five. -/
theorem no_info {T : TypeId} (h : T ≠ 44) (v : Value) (w : World) : (Instr.typeAssert (.iface T v) 20 44 true).run Try.prog w = .ok (.tuple #[infoZero, .bool false]) w := ta_no _ Try.underlying44 (by intro ms h; cases h) h zv_info v w
theorem no_pad {T : TypeId} (h : T ≠ 55) (v : Value) (w : World) : (Instr.typeAssert (.iface T v) 20 55 true).run Try.prog w = .ok (.tuple #[.int .i64 0, .bool false]) w := ta_no _ Try.underlying55 (by intro ms h; cases h) h zv_pad v w
theorem no_seek {T : TypeId} (h : T ≠ 46) (v : Value) (w : World) : (Instr.typeAssert (.iface T v) 20 46 true).run Try.prog w = .ok (.tuple #[.slice none 0 0, .bool false]) w := ta_no _ Try.underlying46 (by intro ms h; cases h) h zv_seek v w
theorem no_comment {T : TypeId} (h : T ≠ 49) (v : Value) (w : World) : (Instr.typeAssert (.iface T v) 20 49 true).run Try.prog w = .ok (.tuple #[commentZero, .bool false]) w := ta_no _ Try.underlying49 (by intro ms h; cases h) h zv_comment v w
theorem no_meta {T : TypeId} (h : T ≠ 39) (v : Value) (w : World) : (Instr.typeAssert (.iface T v) 20 39 true).run Try.prog w = .ok (.tuple #[metaZero, .bool false]) w := ta_no _ Try.underlying39 (by intro ms h; cases h) h zv_meta v w
theorem yes_info (v : Value) (w : World) : (Instr.typeAssert (.iface 44 v) 20 44 true).run Try.prog w = .ok (.tuple #[v, .bool true]) w := ta_yes _ Try.underlying44 (by intro ms h; cases h) v w
theorem yes_pad (v : Value) (w : World) : (Instr.typeAssert (.iface 55 v) 20 55 true).run Try.prog w = .ok (.tuple #[v, .bool true]) w := ta_yes _ Try.underlying55 (by intro ms h; cases h) v w
theorem yes_seek (v : Value) (w : World) : (Instr.typeAssert (.iface 46 v) 20 46 true).run Try.prog w = .ok (.tuple #[v, .bool true]) w := ta_yes _ Try.underlying46 (by intro ms h; cases h) v w
theorem yes_comment (v : Value) (w : World) : (Instr.typeAssert (.iface 49 v) 20 49 true).run Try.prog w = .ok (.tuple #[v, .bool true]) w := ta_yes _ Try.underlying49 (by intro ms h; cases h) v w
theorem yes_meta (v : Value) (w : World) : (Instr.typeAssert (.iface 39 v) 20 39 true).run Try.prog w = .ok (.tuple #[v, .bool true]) w := ta_yes _ Try.underlying39 (by intro ms h; cases h) v w

set_option maxHeartbeats 2000000 in
theorem writtenComment_any (mk : ByteArray) (A : Option Addr) (n c : Nat) (fs : List ByteArray) (w : World) (hr : ReadsS w A n fs) (hn : n ≤ 1000000) (hm : mk.size ≤ 1000000) (hf : ∀ f ∈ fs, f.size ≤ 1000000) :
    Calls Try.prog 58 #[.iface 49 (.agg #[.string mk, .slice A n c])] w (if commentB mk fs then MetaRes w 4 (commentL mk fs) 0 else MetaRes w 0 [] 6) := by
  have HR := Lib.hid hr; have HF := Lib.hid hf
  clear hr hf
  have t1 := no_info (T := 49) (by decide)
  have t2 := no_pad (T := 49) (by decide)
  have t3 := no_seek (T := 49) (by decide)
  have t4 := yes_comment
  obtain ⟨W3, hW3⟩ : ∃ W3, ((w.alloc (Obj.cells #[.int .i64 0, .slice none 0 0] 39)).alloc (Obj.cells #[.int .i64 0, .slice none 0 0] 39)).alloc (Obj.cells #[.string mk, .slice A n c] 49) = W3 := ⟨_, rfl⟩
  have hb3 : Below w.heap.size w W3 := by rw [← hW3]; exact below_alloc (below_alloc (ba w _) _) _
  have hB2 : W3.heap[w.heap.size]? = some (.cells #[.int .i64 0, .slice none 0 0] 39 (0, 0)) := by rw [← hW3]; exact blk_below (blk_below (heap_alloc_new w _) (ba _ _)) (ba _ _)
  have hB4 : W3.heap[w.heap.size + 1]? = some (.cells #[.int .i64 0, .slice none 0 0] 39 (0, 0)) := by rw [← hW3]; have h := heap_alloc_new (w.alloc (Obj.cells #[.int .i64 0, .slice none 0 0] 39)) (Obj.cells #[.int .i64 0, .slice none 0 0] 39); rw [World.size_alloc] at h; exact blk_below h (ba _ _)
  have hB9 : W3.heap[w.heap.size + 1 + 1]? = some (.cells #[.string mk, .slice A n c] 49 (0, 0)) := by rw [← hW3]; have h := heap_alloc_new ((w.alloc (Obj.cells #[.int .i64 0, .slice none 0 0] 39)).alloc (Obj.cells #[.int .i64 0, .slice none 0 0] 39)) (Obj.cells #[.string mk, .slice A n c] 49); rw [World.size_alloc, World.size_alloc] at h; exact h
  have HB3 := Lib.hid hb3; have HB2 := Lib.hid hB2; have HB4 := Lib.hid hB4; have HB9 := Lib.hid hB9
  have HW3 := Lib.hid hW3
  clear hb3 hB2 hB4 hB9 hW3
  cases hc : commentB mk fs
  · have HC := Lib.hid hc
    clear hc
    go_enter Try.func58, Try.ntmps58
    go_wp2_with fail
    rw [HW3.out]
    refine (commentRight_any mk A n c fs W3 (HR.out.below HB3.out) hn hm HF.out).mono ?_
    rintro e w4 ⟨rfl, hb4⟩
    rw [HC.out]
    have b2 := blk_below HB2.out hb4
    have c0 := blk_cell b2 0
    have c1 := blk_cell b2 1
    have f0 := blk_frozen b2 0
    have f1 := blk_frozen b2 1
    have HQ := Lib.hid b2
    simp only [List.getElem?_toArray, List.getElem?_cons_zero, List.getElem?_cons_succ] at c0 c1
    clear b2
    go_wp2
    refine bodyPost_ret (v := .tuple #[.agg #[.int .i64 0, .slice none 0 0], .int .i64 6]) (by simp [results, Try.results58, go_sem, c0, c1]) rfl ?_
    refine ⟨.slice none 0 0, rfl, own_nil _ _ _ _, ?_⟩
    exact ((bt HB3.out hb4).setCell (Nat.le_refl _) _).setCell (Nat.le_refl _) _
  · have HC := Lib.hid hc
    clear hc
    go_enter Try.func58, Try.ntmps58
    go_wp2_with fail
    rw [HW3.out]
    refine (commentRight_any mk A n c fs W3 (HR.out.below HB3.out) hn hm HF.out).mono ?_
    rintro e w4 ⟨rfl, hb4⟩
    rw [HC.out]
    have b9 := blk_below HB9.out hb4
    have c0 := blk_cell b9 0
    have c1 := blk_cell b9 1
    simp only [List.getElem?_toArray, List.getElem?_cons_zero, List.getElem?_cons_succ] at c0 c1
    clear b9
    go_wp2_with fail
    refine (commentBody_any mk A n c fs w4 (HR.out.below (bt HB3.out hb4)) hn hm HF.out).mono ?_
    rintro e w5 ⟨v5, rfl, hown5, hb5⟩
    have HO5 := Lib.hid hown5
    have hb45 := bt hb4 hb5
    have b4 := blk_below HB4.out hb45
    have b2 := blk_below HB2.out hb45
    obtain ⟨A5, c5, hv5, hrd5⟩ := own_reads hown5
    subst hv5
    clear c0 c1
    have c0 := blk_cell b2 0
    have c1 := blk_cell b2 1
    have f0 := blk_frozen b2 0
    have f1 := blk_frozen b2 1
    have d0 := blk_cell b4 0
    have d1 := blk_cell b4 1
    have g0 := blk_frozen b4 0
    have g1 := blk_frozen b4 1
    simp only [List.getElem?_toArray, List.getElem?_cons_zero, List.getElem?_cons_succ] at c0 c1 d0 d1
    have HQ2 := Lib.hid b2; have HQ4 := Lib.hid b4
    clear b2 b4 hown5 hrd5
    go_wp2
    have hB := bt HB3.out hb45
    have o1 := own_setCell (p := ⟨w.heap.size + 1, 0, none⟩) HO5.out (own_ne HO5.out HQ4.out (by decide)) (.int .i64 4)
    have m1 := blk_set HQ4.out 0 (.int .i64 4)
    have o2 := own_setCell (p := ⟨w.heap.size + 1, 1, none⟩) o1 (own_ne o1 m1 (by decide)) (.slice A5 (commentL mk fs).length c5)
    have m2 := blk_set m1 1 (.slice A5 (commentL mk fs).length c5)
    have r1 := blk_far (blk_far HQ2.out (p := ⟨w.heap.size + 1, 0, none⟩) (by simp) (.int .i64 4)) (p := ⟨w.heap.size + 1, 1, none⟩) (by simp) (.slice A5 (commentL mk fs).length c5)
    have o3 := own_setCell (p := ⟨w.heap.size, 0, none⟩) o2 (own_ne o2 r1 (by decide)) (.int .i64 4)
    have r2 := blk_set r1 0 (.int .i64 4)
    have o4 := own_setCell (p := ⟨w.heap.size, 1, none⟩) o3 (own_ne o3 r2 (by decide)) (.slice A5 (commentL mk fs).length c5)
    refine bodyPost_ret (v := .tuple #[.agg #[.int .i64 4, .slice A5 (commentL mk fs).length c5], .int .i64 0]) (by simp [results, Try.results58, go_sem, c0, c1, d0, d1]) rfl ?_
    refine ⟨.slice A5 (commentL mk fs).length c5, rfl, own_weaken o4 (by have := hb4.size; have := HB3.out.size; omega), ?_⟩
    exact (((hB.setCell (by simp) _).setCell (by simp) _).setCell (Nat.le_refl _) _).setCell (Nat.le_refl _) _
/-- What stands behind the call: a result that lies in a cell. -/
theorem wrap_Comment (mk : ByteArray) (A : Option Addr) (n c : Nat) (k : Int) (body : List Int) (err : Int) (w : World)
    (hc : ∀ W, Below w.heap.size w W → Calls Try.prog 58 #[.iface 49 (.agg #[.string mk, .slice A n c])] W (MetaRes W k body err)) :
    Calls Try.prog 32 #[.agg #[.string mk, .slice A n c]] w (MetaRes w k body err) := by
  have HC := Lib.hid hc
  clear hc
  obtain ⟨W2, hW2⟩ : ∃ W2, ((w.alloc (Obj.cells #[.string mk, .slice A n c] 49)).alloc (Obj.cells #[.int .i64 0, .slice none 0 0] 39)) = W2 := ⟨_, rfl⟩
  have hb2 : Below w.heap.size w W2 := by rw [← hW2]; exact below_alloc (ba w _) _
  have hB : W2.heap[w.heap.size + 1]? = some (.cells #[.int .i64 0, .slice none 0 0] 39 (0, 0)) := by rw [← hW2]; have h := heap_alloc_new (w.alloc (Obj.cells #[.string mk, .slice A n c] 49)) (Obj.cells #[.int .i64 0, .slice none 0 0] 39); rw [World.size_alloc] at h; exact h
  have HW2 := Lib.hid hW2; have HB := Lib.hid hB; have HB2 := Lib.hid hb2
  clear hW2 hb2 hB
  go_enter Try.func32, Try.ntmps32
  go_wp2_with fail
  rw [HW2.out]
  refine (HC.out W2 HB2.out).mono ?_
  rintro e w3 ⟨v3, rfl, hown3, hb3⟩
  obtain ⟨A3, c3, hv3, hrd3⟩ := own_reads hown3
  subst hv3
  have b := blk_below HB.out hb3
  have c0 := blk_cell b 0
  have c1 := blk_cell b 1
  have f0 := blk_frozen b 0
  have f1 := blk_frozen b 1
  simp only [List.getElem?_toArray, List.getElem?_cons_zero, List.getElem?_cons_succ] at c0 c1
  have HQ := Lib.hid b; have HO := Lib.hid hown3
  clear b hown3 hrd3
  go_wp2
  have o1 := own_setCell (p := ⟨w.heap.size + 1, 0, none⟩) HO.out (own_ne HO.out HQ.out (by decide)) (.int .i64 k)
  have m1 := blk_set HQ.out 0 (.int .i64 k)
  have o2 := own_setCell (p := ⟨w.heap.size + 1, 1, none⟩) o1 (own_ne o1 m1 (by decide)) (.slice A3 body.length c3)
  refine bodyPost_ret (v := .tuple #[.agg #[.int .i64 k, .slice A3 body.length c3], .int .i64 err]) (by simp [results, Try.results32, go_sem, c0, c1]) rfl ?_
  exact ⟨.slice A3 body.length c3, rfl, own_weaken o2 HB2.out.size, ((bt HB2.out hb3).setCell (by simp) _).setCell (by simp) _⟩
def commentRes (mk : ByteArray) (fs : List ByteArray) : Int × List Int × Int := if commentB mk fs then (4, commentL mk fs, 0) else (0, [], 6)
theorem Comment_any (mk : ByteArray) (A : Option Addr) (n c : Nat) (fs : List ByteArray) (w : World) (hr : ReadsS w A n fs) (hn : n ≤ 1000000) (hm : mk.size ≤ 1000000) (hf : ∀ f ∈ fs, f.size ≤ 1000000) :
    Calls Try.prog 32 #[.agg #[.string mk, .slice A n c]] w (MetaRes w (commentRes mk fs).1 (commentRes mk fs).2.1 (commentRes mk fs).2.2) := by
  refine wrap_Comment mk A n c _ _ _ w fun W hb => ?_
  have h := writtenComment_any mk A n c fs W (hr.below hb) hn hm hf
  unfold commentRes
  cases hc : commentB mk fs <;> rw [hc] at h <;> exact h
end Go.Proofs.Ytdpgojcljlfnbaa
end
