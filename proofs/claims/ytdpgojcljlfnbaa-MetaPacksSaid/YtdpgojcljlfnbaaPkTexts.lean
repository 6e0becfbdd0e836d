/- Contracts of functions that the law reaches: Texts, ReadComment. -/
import Derived.Test.YtdpgojcljlfnbaaPkText
import Derived.Test.YtdpgojcljlfnbaaPkReader
import Derived.Test.YtdpgojcljlfnbaaPkField
import Derived.Test.YtdpgojcljlfnbaaPkBase
import Derived.Deep.RegionHeld3
section
/- Contracts of meta.texts: size, text; bytes. -/

set_option linter.unusedVariables false
set_option linter.unusedSimpArgs false
set_option maxRecDepth 100000
namespace Go.Proofs.Ytdpgojcljlfnbaa
open Go.RowKit
open Go.Proofs.YtdpgojcljlfnbaaW.PrintWords

theorem bits_or_i64_nat (a b : Nat) (ha : a < 4611686018427387904) (hb : b < 4611686018427387904) : bits .or .i64 (a : Int) (b : Int) = ((a ||| b : Nat) : Int) := by
  have hx : a ||| b < 2 ^ 62 := Nat.or_lt_two_pow (by omega) (by omega)
  have h1 : (BitVec.ofInt 64 (a : Int)).toNat = a := by
    rw [BitVec.ofInt_natCast, BitVec.toNat_ofNat]; exact Nat.mod_eq_of_lt (by omega)
  have h2 : (BitVec.ofInt 64 (b : Int)).toNat = b := by
    rw [BitVec.ofInt_natCast, BitVec.toNat_ofNat]; exact Nat.mod_eq_of_lt (by omega)
  show IntKind.i64.wrap ((BitVec.ofInt 64 (a : Int) ||| BitVec.ofInt 64 (b : Int)).toNat : Int) = _
  rw [BitVec.toNat_or, h1, h2, IntWalk.i64_in _ (by omega)]
theorem or_up (a b k : Nat) (ha : a < 2 ^ k) (hk : k ≤ 40) (hb : b < 2 ^ 20) : bits .or .i64 (a : Int) ((b * 2 ^ k : Nat) : Int) = ((a + b * 2 ^ k : Nat) : Int) := by
  have h1 : 2 ^ k ≤ 2 ^ 40 := Nat.pow_le_pow_right (by decide) hk
  have h2 : b * 2 ^ k < 2 ^ 20 * 2 ^ 40 := Nat.lt_of_lt_of_le (Nat.mul_lt_mul_of_pos_right hb (Nat.pow_pos (by decide))) (Nat.mul_le_mul_left _ h1)
  rw [bits_or_i64_nat _ _ (by omega) (by omega), Nat.or_comm, or_step _ _ _ ha, Nat.add_comm]
/-- A number of four bytes, the lowest one first. -/
def num4 (ys : List Int) : Int := ys.getD 0 0 + 256 * ys.getD 1 0 + 65536 * ys.getD 2 0 + 16777216 * ys.getD 3 0
def IsByte (ys : List Int) : Prop := ∀ y ∈ ys, 0 ≤ y ∧ y < 256
theorem IsByte.drop {ys : List Int} (h : IsByte ys) (k : Nat) : IsByte (ys.drop k) := fun y hy => h y (List.mem_of_mem_drop hy)
theorem IsByte.at_ {ys : List Int} (h : IsByte ys) (i : Nat) (hi : i < ys.length) : ∃ b : Nat, ys.getD i 0 = (b : Int) ∧ b < 256 := by
  have := h _ (getD_mem ys i hi)
  exact ⟨(ys.getD i 0).toNat, by omega, by omega⟩
/-- Bytes that lie ahead of block g. -/
def RdAway (w : World) (g : Nat) (A : Option Addr) (n : Nat) (ys : List Int) : Prop := ReadsInt w .u8 A n ys ∧ ∀ ad, A = some ad → ad.block < g
theorem RdAway.set {w : World} {g : Nat} {A : Option Addr} {n : Nat} {ys : List Int} (h : RdAway w g A n ys) (j : Nat) (u : Value) : RdAway (w.setCell ⟨g, j, none⟩ u) g A n ys := by
  refine ⟨⟨h.1.1, h.1.2.1, fun hn => ?_⟩, h.2⟩
  obtain ⟨ad, e, hc⟩ := h.1.2.2 hn
  refine ⟨ad, e, fun i hi => ?_⟩
  rw [← hc i hi]
  refine World.cell?_of_block ?_
  have hb : (ad.add i).block = ad.block := by unfold Addr.add; split <;> rfl
  rw [hb]
  exact Below.heap_setCell w ⟨g, j, none⟩ u ad.block (Nat.ne_of_lt (h.2 ad e))
theorem RdAway.below {w w1 : World} {g : Nat} {A : Option Addr} {n : Nat} {ys : List Int} (h : RdAway w g A n ys) (hb : Below w.heap.size w w1) : RdAway w1 g A n ys := ⟨h.1.below hb, h.2⟩
theorem RdAway.cut {w : World} {g : Nat} {A : Option Addr} {n : Nat} {ys : List Int} (h : RdAway w g A n ys) (i c : Nat) (hi : i ≤ n) (hc : n ≤ c) : RdAway w g (if c = i then A else A.map (·.add i)) (n - i) (ys.drop i) := by
  refine ⟨h.1.drop_ i hi hc, fun ad e => ?_⟩
  split at e
  · exact h.2 ad e
  · cases A with
    | none => cases e
    | some a =>
      simp only [Option.map_some, Option.some.injEq] at e
      subst e
      have hb : (a.add i).block = a.block := by unfold Addr.add; split <;> rfl
      rw [hb]; exact h.2 a rfl
structure IsT (w : World) (g : Nat) (A : Option Addr) (c : Nat) (ys : List Int) (e : Int) : Prop where
  blk : w.heap[g]? = some (.cells #[.slice A ys.length c, .int .i64 e] 193 (0, 0))
  rd : RdAway w g A ys.length ys
  cap : ys.length ≤ c
  by_ : IsByte ys
theorem IsT.below {w w1 : World} {g : Nat} {A : Option Addr} {c : Nat} {ys : List Int} {e : Int} (h : IsT w g A c ys e) (hb : Below w.heap.size w w1) : IsT w1 g A c ys e := ⟨blk_below h.blk hb, h.rd.below hb, h.cap, h.by_⟩
theorem RdAway.low {w w1 : World} {g B : Nat} {A : Option Addr} {n : Nat} {ys : List Int} (h : RdAway w g A n ys) (hb : Below B w w1) (hB : g ≤ B) : RdAway w1 g A n ys := by
  refine ⟨⟨h.1.1, h.1.2.1, fun hn => ?_⟩, h.2⟩
  obtain ⟨ad, e, hc⟩ := h.1.2.2 hn
  refine ⟨ad, e, fun i hi => ?_⟩
  rw [← hc i hi]
  refine World.cell?_of_block ?_
  have hbk : (ad.add i).block = ad.block := by unfold Addr.add; split <;> rfl
  rw [hbk]
  exact hb.block ad.block (Nat.lt_of_lt_of_le (h.2 ad e) hB)
theorem IsT.low {w w1 : World} {g B : Nat} {A : Option Addr} {c : Nat} {ys : List Int} {e : Int} (h : IsT w g A c ys e) (hb : Below B w w1) (hB : g < B) : IsT w1 g A c ys e := ⟨(hb.block g hB).trans h.blk, h.rd.low hb (Nat.le_of_lt hB), h.cap, h.by_⟩
theorem IsT.far {w : World} {g : Nat} {A : Option Addr} {c : Nat} {ys : List Int} {e : Int} (h : IsT w g A c ys e) {p : Addr} (hp : g < p.block) (u : Value) : IsT (w.setCell p u) g A c ys e := by
  have hb : Below p.block w (w.setCell p u) := (Below.refl _ _).setCell (Nat.le_refl _) u
  exact h.low hb hp
theorem RStep.set_at {w w1 : World} {g : Nat} (h : RStep w w1 g) (j : Nat) (u : Value) : RStep w (w1.setCell ⟨g, j, none⟩ u) g := ⟨h.os, h.tape, h.output, h.keep.set_ j _⟩
theorem size_no (g : Nat) (A : Option Addr) (c : Nat) (ys : List Int) (e : Int) (w : World) (hT : IsT w g A c ys e) (h : ¬ (e = 0 ∧ 4 ≤ ys.length)) :
    Calls Try.prog 133 #[.pointer (some ⟨g, 0, none⟩)] w fun en w' => en = .returned (.int .i64 0) ∧ IsT w' g A c ys 2 ∧ RStep w w' g := by
  have HT := Lib.hid hT
  have c0 := blk_cell hT.blk 0
  have c1 := blk_cell hT.blk 1
  have f1 := blk_frozen hT.blk 1
  simp only [List.getElem?_toArray, List.getElem?_cons_zero, List.getElem?_cons_succ] at c0 c1
  clear hT
  by_cases he : e = 0
  · have hl : ys.length < 4 := by omega
    have hld : decide ((ys.length : Int) < 4) = true := decide_eq_true (by omega)
    subst he
    clear h
    go_enter Try.func133, Try.ntmps133
    go_wp2
    go_ret
    exact ⟨rfl, ⟨by simpa using blk_set HT.out.blk 1 (.int .i64 2), HT.out.rd.set 1 _, HT.out.cap, HT.out.by_⟩, (RStep.refl w g).set_at 1 _⟩
  · have heb : (e != 0) = true := by rw [bne_iff_ne]; exact he
    have heb2 : (e == 0) = false := by rw [beq_eq_false_iff_ne]; exact he
    clear h he
    go_enter Try.func133, Try.ntmps133
    go_wp2
    go_ret
    exact ⟨rfl, ⟨by simpa using blk_set HT.out.blk 1 (.int .i64 2), HT.out.rd.set 1 _, HT.out.cap, HT.out.by_⟩, (RStep.refl w g).set_at 1 _⟩
def SizeYes (g : Nat) (v : Value) (ys : List Int) (w : World) (en : Ending) (w' : World) : Prop := en = .returned v ∧ (∃ A' c', IsT w' g A' c' ys 0) ∧ RStep w w' g
set_option maxHeartbeats 1000000 in
theorem size_yes (g : Nat) (A : Option Addr) (c : Nat) (ys : List Int) (w : World) (hT : IsT w g A c ys 0) (hl : 4 ≤ ys.length) :
    Calls Try.prog 133 #[.pointer (some ⟨g, 0, none⟩)] w (SizeYes g (.int .i64 (num4 ys)) (ys.drop 4) w) := by
  have HT := Lib.hid hT
  have c0 := blk_cell hT.blk 0
  have c1 := blk_cell hT.blk 1
  have f0 := blk_frozen hT.blk 0
  simp only [List.getElem?_toArray, List.getElem?_cons_zero, List.getElem?_cons_succ] at c0 c1
  obtain ⟨b0, e0, hb0⟩ := hT.by_.at_ 0 (by omega)
  obtain ⟨b1, e1, hb1⟩ := hT.by_.at_ 1 (by omega)
  obtain ⟨b2, e2, hb2⟩ := hT.by_.at_ 2 (by omega)
  obtain ⟨b3, e3, hb3⟩ := hT.by_.at_ 3 (by omega)
  obtain ⟨ad, rfl, hc⟩ := hT.rd.1.2.2 (by omega)
  have q0 := hc 0 (by omega); have q1 := hc 1 (by omega); have q2 := hc 2 (by omega); have q3 := hc 3 (by omega)
  have q0 : w.cell? ad = some (.int .u8 (ys.getD 0 0)) := by simpa [Addr.add] using q0
  have q1 : w.cell? ⟨ad.block, ad.off + 1, none⟩ = some (.int .u8 (ys.getD 1 0)) := by simpa [Addr.add] using q1
  have q2 : w.cell? ⟨ad.block, ad.off + 2, none⟩ = some (.int .u8 (ys.getD 2 0)) := by simpa [Addr.add] using q2
  have q3 : w.cell? ⟨ad.block, ad.off + 3, none⟩ = some (.int .u8 (ys.getD 3 0)) := by simpa [Addr.add] using q3
  rw [e0] at q0; rw [e1] at q1; rw [e2] at q2; rw [e3] at q3
  have o0 : bits .or .i64 (0 : Int) (b0 : Int) = (b0 : Int) := by have := bits_or_i64_nat 0 b0 (by omega) (by omega); simpa using this
  obtain ⟨n1, hn1⟩ : ∃ n1, b0 + b1 * 2 ^ 8 = n1 := ⟨_, rfl⟩
  obtain ⟨n2, hn2⟩ : ∃ n2, n1 + b2 * 2 ^ 16 = n2 := ⟨_, rfl⟩
  obtain ⟨n3, hn3⟩ : ∃ n3, n2 + b3 * 2 ^ 24 = n3 := ⟨_, rfl⟩
  have hv : num4 ys = (n3 : Int) := by unfold num4; rw [e0, e1, e2, e3]; omega
  have HV := Lib.hid hv
  have o1 : bits .or .i64 (b0 : Int) ((b1 : Int) * 256) = (n1 : Int) := by rw [← hn1, show ((b1 : Int) * 256) = ((b1 * 2 ^ 8 : Nat) : Int) from by omega]; exact or_up b0 b1 8 (by omega) (by omega) (by omega)
  have o2 : bits .or .i64 (n1 : Int) ((b2 : Int) * 65536) = (n2 : Int) := by rw [← hn2, show ((b2 : Int) * 65536) = ((b2 * 2 ^ 16 : Nat) : Int) from by omega]; exact or_up n1 b2 16 (by omega) (by omega) (by omega)
  have o3 : bits .or .i64 (n2 : Int) ((b3 : Int) * 16777216) = (n3 : Int) := by rw [← hn3, show ((b3 : Int) * 16777216) = ((b3 * 2 ^ 24 : Nat) : Int) from by omega]; exact or_up n2 b3 24 (by omega) (by omega) (by omega)
  have hcap := hT.cap
  have hld : decide ((ys.length : Int) < 4) = false := decide_eq_false (by omega)
  clear hT e0 e1 e2 e3 hc hv hn1 hn2 hn3
  go_enter Try.func133, Try.ntmps133
  go_wp2
  refine wp_loop_rounds 5 ?_
  rw [rounds_succ]
  go_wp2
  rw [rounds_succ]
  go_wp2
  rw [rounds_succ]
  go_wp2
  rw [rounds_succ]
  go_wp2
  rw [rounds_succ]
  clear q0 q1 q2 q3 o0 o1 o2 o3
  have hdl : (ys.drop 4).length = ys.length - 4 := List.length_drop
  have HDL := Lib.hid hdl
  have hrd := HT.out.rd.cut 4 c hl hcap
  have HRD := Lib.hid hrd
  clear hdl hrd
  by_cases h4 : c = 4
  · have hrd := HRD.out
    rw [if_pos h4, ← HDL.out] at hrd
    have HR4 := Lib.hid hrd
    clear hrd
    go_wp2
    go_ret
    refine ⟨ret_int HV.out.symm, ⟨_, _, by have h := blk_set HT.out.blk 0 (.slice (some ad) (ys.length - 4) 0); rw [← HDL.out] at h; simpa using h, ?_, by have := HDL.out; have := hcap; omega, HT.out.by_.drop 4⟩, (RStep.refl w g).set_at 0 _⟩
    exact HR4.out.set 0 _
  · have hrd := HRD.out
    have ha : (some ad).map (·.add 4) = some (⟨ad.block, ad.off + 4, none⟩ : Addr) := by simp [Addr.add]
    rw [if_neg h4, ha, ← HDL.out] at hrd
    have HR4 := Lib.hid hrd
    clear hrd ha
    go_wp2
    go_ret
    refine ⟨ret_int HV.out.symm, ⟨_, _, by have h := blk_set HT.out.blk 0 (.slice (some ⟨ad.block, ad.off + 4, none⟩) (ys.length - 4) (c - 4)); rw [← HDL.out] at h; simpa using h, ?_, by have := HDL.out; omega, HT.out.by_.drop 4⟩, (RStep.refl w g).set_at 0 _⟩
    exact HR4.out.set 0 _
def TRes (g : Nat) (v : Value) (ys : List Int) (e : Int) (w : World) (en : Ending) (w' : World) : Prop := en = .returned v ∧ (∃ A' c', IsT w' g A' c' ys e) ∧ RStep w w' g
/-- What size tells, what is left, what is wrong. -/
def sizeR (ys : List Int) (e : Int) : Int × List Int × Int := if e = 0 ∧ 4 ≤ ys.length then (num4 ys, ys.drop 4, 0) else (0, ys, 2)
theorem size_any (g : Nat) (A : Option Addr) (c : Nat) (ys : List Int) (e : Int) (w : World) (hT : IsT w g A c ys e) :
    Calls Try.prog 133 #[.pointer (some ⟨g, 0, none⟩)] w (TRes g (.int .i64 (sizeR ys e).1) (sizeR ys e).2.1 (sizeR ys e).2.2 w) := by
  by_cases h : e = 0 ∧ 4 ≤ ys.length
  · obtain ⟨rfl, hl⟩ := h
    have hs : sizeR ys 0 = (num4 ys, ys.drop 4, 0) := by unfold sizeR; rw [if_pos ⟨rfl, hl⟩]
    rw [hs]
    exact size_yes g A c ys w hT hl
  · have hs : sizeR ys e = (0, ys, 2) := by unfold sizeR; rw [if_neg h]
    rw [hs]
    exact (size_no g A c ys e w hT h).mono fun en w' ⟨h1, h2, h3⟩ => ⟨h1, ⟨A, c, h2⟩, h3⟩
theorem num4_bd {ys : List Int} (h : IsByte ys) (hl : 4 ≤ ys.length) : 0 ≤ num4 ys ∧ num4 ys ≤ 4294967295 := by
  obtain ⟨b0, e0, hb0⟩ := h.at_ 0 (by omega)
  obtain ⟨b1, e1, hb1⟩ := h.at_ 1 (by omega)
  obtain ⟨b2, e2, hb2⟩ := h.at_ 2 (by omega)
  obtain ⟨b3, e3, hb3⟩ := h.at_ 3 (by omega)
  unfold num4
  rw [e0, e1, e2, e3]; omega
/-- What text tells, what is left, what is wrong. -/
def textR (ys : List Int) (e : Int) : ByteArray × List Int × Int :=
  if (sizeR ys e).2.2 ≠ 0 then (⟨#[]⟩, (sizeR ys e).2.1, 2)
  else if ((sizeR ys e).2.1.length : Int) < (sizeR ys e).1 then (⟨#[]⟩, (sizeR ys e).2.1, 2)
  else (strOfNums ((sizeR ys e).2.1.take (sizeR ys e).1.toNat), (sizeR ys e).2.1.drop (sizeR ys e).1.toNat, 0)
theorem sizeR_bd {ys : List Int} (e : Int) (h : IsByte ys) : 0 ≤ (sizeR ys e).1 ∧ (sizeR ys e).1 ≤ 4294967295 := by
  unfold sizeR
  split
  · rename_i hc
    exact num4_bd h hc.2
  · exact ⟨Int.le_refl _, by show (0 : Int) ≤ 4294967295; omega⟩
theorem run_cut_b (A : Option Addr) (n c m : Nat) (hm : m ≤ n) (W : World) : (Instr.slice 37 (.slice A n c) (some (.int .i64 (m : Int))) none none).run Try.prog W = .ok (.slice (if c = m then A else A.map (·.add m)) (n - m) (c - m)) W := by
  obtain ⟨i, hi, hz⟩ := Option.map_eq_some_iff.1 info_u8
  simp only [Prod.mk.injEq] at hz
  have hel : Try.prog.elem 37 = 5 := by simp [Program.elem, Try.underlying37]
  have hu : Try.prog.underlying 37 = some (.slice (Try.prog.elem 37)) := by rw [hel]; exact Try.underlying37
  rw [run_slice_l W 37 A n c hu .i64 (m : Int) (Int.natCast_nonneg _) (by omega), hel]
  simp [sizeOf, typeInfo, hi, hz.2.1, sliced, Result.andThen]
set_option maxHeartbeats 1000000 in
theorem text_any (g : Nat) (A : Option Addr) (c : Nat) (ys : List Int) (e : Int) (w : World) (hT : IsT w g A c ys e) :
    Calls Try.prog 132 #[.pointer (some ⟨g, 0, none⟩)] w (TRes g (.string (textR ys e).1) (textR ys e).2.1 (textR ys e).2.2 w) := by
  have HT := Lib.hid hT
  have hbd := sizeR_bd e hT.by_
  have HV : Hid (textR ys e = if (sizeR ys e).2.2 ≠ 0 then (⟨#[]⟩, (sizeR ys e).2.1, 2) else if ((sizeR ys e).2.1.length : Int) < (sizeR ys e).1 then (⟨#[]⟩, (sizeR ys e).2.1, 2) else (strOfNums ((sizeR ys e).2.1.take (sizeR ys e).1.toNat), (sizeR ys e).2.1.drop (sizeR ys e).1.toNat, 0)) := Lib.hid rfl
  have HC := Lib.hid (size_any g A c ys e w hT)
  obtain ⟨sr, hsr⟩ : ∃ sr, sizeR ys e = sr := ⟨_, rfl⟩
  rw [hsr] at HV HC hbd
  obtain ⟨nn, zs, er⟩ := sr
  dsimp only at HV HC hbd
  obtain ⟨m, hm⟩ : ∃ m : Nat, nn = (m : Int) := ⟨nn.toNat, by omega⟩
  subst hm
  have hm32 : m ≤ 4294967295 := by omega
  clear hT hsr hbd
  go_enter Try.func132, Try.ntmps132
  go_wp2_with fail
  refine HC.out.mono ?_
  rintro en w1 ⟨rfl, ⟨A1, c1, hT1⟩, hs1⟩
  have HT1 := Lib.hid hT1; have HS1 := Lib.hid hs1
  have k0 := blk_cell hT1.blk 0
  have k1 := blk_cell hT1.blk 1
  have f0 := blk_frozen hT1.blk 0
  have f1 := blk_frozen hT1.blk 1
  simp only [List.getElem?_toArray, List.getElem?_cons_zero, List.getElem?_cons_succ] at k0 k1
  have hcap := hT1.cap
  clear hT1 hs1
  by_cases he : er = 0
  · subst he
    by_cases hlt : zs.length < m
    · have hd : decide ((zs.length : Int) < (m : Int)) = true := decide_eq_true (by omega)
      have HX : Hid (textR ys e = (⟨#[]⟩, zs, 2)) := Lib.hid (by rw [HV.out, if_neg (by simp), if_pos (by omega)])
      go_wp2
      go_ret
      refine ⟨by rw [HX.out]; rfl, ?_, HS1.out.set_at 1 _⟩
      rw [HX.out]
      exact ⟨A1, c1, by simpa using blk_set HT1.out.blk 1 (.int .i64 2), HT1.out.rd.set 1 _, HT1.out.cap, HT1.out.by_⟩
    · have hd : decide ((zs.length : Int) < (m : Int)) = false := decide_eq_false (by omega)
      have HX : Hid (textR ys e = (strOfNums (zs.take m), zs.drop m, 0)) := Lib.hid (by rw [HV.out, if_neg (by simp), if_neg (by omega), Int.toNat_natCast])
      have hmz : m ≤ zs.length := by omega
      have hcv := string_of_reads (P := Try.prog) (w := w1) (c := c1) Try.underlying37 Try.underlying5 Try.underlying9 (HT1.out.rd.1.take_ m hmz)
      have hct := run_cut_b A1 zs.length c1 m hmz
      have hrd := HT1.out.rd.cut m c1 hmz hcap
      obtain ⟨X, hX⟩ : ∃ X, (if c1 = m then A1 else A1.map (·.add m)) = X := ⟨_, rfl⟩
      rw [hX] at hct hrd
      have hzl : (zs.drop m).length = zs.length - m := List.length_drop
      rw [← hzl] at hrd
      have HRD := Lib.hid hrd; have HZL := Lib.hid hzl
      clear hX hrd hzl
      have hmc : (m : Int) ≤ (c1 : Int) := by omega
      go_wp2
      go_ret
      refine ⟨by rw [HX.out]; rfl, ?_, HS1.out.set_at 0 _⟩
      rw [HX.out]
      dsimp only
      refine ⟨X, c1 - m, ?_, HRD.out.set 0 _, by have := HZL.out; omega, HT1.out.by_.drop m⟩
      have h := blk_set HT1.out.blk 0 (.slice X (zs.length - m) (c1 - m))
      rw [← HZL.out] at h
      simpa using h
  · have heb : (er != 0) = true := by rw [bne_iff_ne]; exact he
    have heb2 : (er == 0) = false := by rw [beq_eq_false_iff_ne]; exact he
    have HX : Hid (textR ys e = (⟨#[]⟩, zs, 2)) := Lib.hid (by rw [HV.out, if_pos he])
    clear he
    go_wp2
    go_ret
    refine ⟨by rw [HX.out]; rfl, ?_, HS1.out.set_at 1 _⟩
    rw [HX.out]
    exact ⟨A1, c1, by simpa using blk_set HT1.out.blk 1 (.int .i64 2), HT1.out.rd.set 1 _, HT1.out.cap, HT1.out.by_⟩
end Go.Proofs.Ytdpgojcljlfnbaa
end
section
/- The contract of meta.readComment; up to a milliard bytes. -/
set_option linter.unusedVariables false
set_option linter.unusedSimpArgs false
set_option maxRecDepth 100000
namespace Go.Proofs.Ytdpgojcljlfnbaa
open Go.RowKit
open Go.Proofs.YtdpgojcljlfnbaaW.PrintWords

/-- So many texts, what is left, what is wrong. -/
def fieldsR : Nat → List Int → Int → List ByteArray × List Int × Int
  | 0, ys, e => ([], ys, e)
  | n + 1, ys, e => if e ≠ 0 then ([], ys, e) else ((textR ys e).1 :: (fieldsR n (textR ys e).2.1 (textR ys e).2.2).1, (fieldsR n (textR ys e).2.1 (textR ys e).2.2).2)
/-- What a comment's body tells: who made it, fields, what is wrong. -/
def commentR (ys : List Int) : ByteArray × List ByteArray × Int :=
  let t := textR ys 0
  let s := sizeR t.2.1 t.2.2
  let f := fieldsR s.1.toNat s.2.1 s.2.2
  (t.1, f.1, if f.2.2 = 0 ∧ f.2.1 ≠ [] then 3 else f.2.2)
theorem textR_len (ys : List Int) (e : Int) : (textR ys e).2.1.length ≤ ys.length ∧ ((textR ys e).2.2 = 0 → (textR ys e).2.1.length + 4 ≤ ys.length) := by
  have hs : (sizeR ys e).2.1.length ≤ ys.length ∧ ((sizeR ys e).2.2 = 0 → (sizeR ys e).2.1.length + 4 ≤ ys.length) := by
    unfold sizeR
    split
    · rename_i h; simp; omega
    · simp
  unfold textR
  split
  · exact ⟨hs.1, fun h => by cases h⟩
  · rename_i h0
    have h0 : (sizeR ys e).2.2 = 0 := by simpa using h0
    split
    · exact ⟨hs.1, fun h => by cases h⟩
    · have := hs.2 h0
      simp only [List.length_drop]
      omega
theorem info_string : (Try.prog.info? 9).map (fun i => (i.zero, i.size, i.bytes)) = some (some (.string ⟨#[]⟩), 1, 16) := by kernel_rfl
abbrev OwnS (w : World) (base : Nat) (v : Value) (xs : List ByteArray) : Prop := w.ownsRow base 9 1 v xs.length (encs Value.string xs)
def CommentRes (w : World) (mk : ByteArray) (fs : List ByteArray) (err : Int) (e : Ending) (w' : World) : Prop := ∃ v, e = .returned (.tuple #[.iface 49 (.agg #[.string mk, v]), .int .i64 err]) ∧ OwnS w' w.heap.size v fs ∧ Below w.heap.size w w'

set_option maxHeartbeats 2000000 in
theorem readComment_any (A : Option Addr) (c : Nat) (ys : List Int) (w : World) (hr : ReadsInt w .u8 A ys.length ys) (hc : ys.length ≤ c) (hy : IsByte ys) (hA : ∀ ad, A = some ad → ad.block < w.heap.size) (hl : ys.length ≤ 1000000000) :
    Calls Try.prog 96 #[.slice A ys.length c] w (CommentRes w (commentR ys).1 (commentR ys).2.1 (commentR ys).2.2) := by
  have HV : Hid (commentR ys = ((textR ys 0).1, (fieldsR (sizeR (textR ys 0).2.1 (textR ys 0).2.2).1.toNat (sizeR (textR ys 0).2.1 (textR ys 0).2.2).2.1 (sizeR (textR ys 0).2.1 (textR ys 0).2.2).2.2).1, if (fieldsR (sizeR (textR ys 0).2.1 (textR ys 0).2.2).1.toNat (sizeR (textR ys 0).2.1 (textR ys 0).2.2).2.1 (sizeR (textR ys 0).2.1 (textR ys 0).2.2).2.2).2.2 = 0 ∧ (fieldsR (sizeR (textR ys 0).2.1 (textR ys 0).2.2).1.toNat (sizeR (textR ys 0).2.1 (textR ys 0).2.2).2.1 (sizeR (textR ys 0).2.1 (textR ys 0).2.2).2.2).2.1 ≠ [] then 3 else (fieldsR (sizeR (textR ys 0).2.1 (textR ys 0).2.2).1.toNat (sizeR (textR ys 0).2.1 (textR ys 0).2.2).2.1 (sizeR (textR ys 0).2.1 (textR ys 0).2.2).2.2).2.2)) := Lib.hid rfl
  have hlen1 := textR_len ys 0
  obtain ⟨t1, ht1⟩ : ∃ t1, textR ys 0 = t1 := ⟨_, rfl⟩
  obtain ⟨s1, hs1⟩ : ∃ s1, sizeR t1.2.1 t1.2.2 = s1 := ⟨_, rfl⟩
  obtain ⟨f1, hf1⟩ : ∃ f1, fieldsR s1.1.toNat s1.2.1 s1.2.2 = f1 := ⟨_, rfl⟩
  rw [ht1, hs1, hf1] at HV
  rw [ht1] at hlen1
  obtain ⟨W0, hW0⟩ : ∃ W0, w.alloc (Obj.cells #[.slice A ys.length c, .int .i64 0] 193) = W0 := ⟨_, rfl⟩
  have hblk0 : W0.heap[w.heap.size]? = some (.cells #[.slice A ys.length c, .int .i64 0] 193 (0, 0)) := by rw [← hW0]; exact heap_alloc_new w _
  have hb0 : Below w.heap.size w W0 := by rw [← hW0]; exact ba _ _
  have HT0 : Hid (IsT W0 w.heap.size A c ys 0) := Lib.hid ⟨hblk0, ⟨hr.below hb0, hA⟩, hc, hy⟩
  have HBW0 := Lib.hid hb0; have HW0 := Lib.hid hW0
  have HT1 := Lib.hid ht1; have HS1 := Lib.hid hs1; have HF1 := Lib.hid hf1; have HLEN := Lib.hid hlen1
  clear hr hA hy hblk0 hb0 hW0 ht1 hs1 hf1 hlen1
  go_enter Try.func96, Try.ntmps96
  go_wp2_with fail
  rw [HW0.out]
  refine (text_any w.heap.size A c ys 0 W0 HT0.out).mono ?_
  rintro e w1 ⟨rfl, ⟨A1, c1, hT1⟩, hst1⟩
  rw [HT1.out] at hT1 ⊢
  have HTT1 := Lib.hid hT1; have HST1 := Lib.hid hst1
  clear hT1 hst1
  obtain ⟨mk, y1, e1⟩ := t1
  obtain ⟨n1, y2, e2⟩ := s1
  obtain ⟨fs, y3, e3⟩ := f1
  dsimp only at HTT1 HS1 HF1 HLEN HV ⊢
  have hlt1 : w.heap.size < w1.heap.size := blk_lt HTT1.out.blk
  have hb1 := HST1.out.below HBW0.out (Nat.le_refl _)
  have hbw1 : Below w.heap.size w (w1.alloc (Obj.cells #[.string mk, .slice none 0 0] 49)) := bt hb1 (ba _ _)
  have hba1 : Below w1.heap.size w1 (w1.alloc (Obj.cells #[.string mk, .slice none 0 0] 49)) := ba _ _
  have hbc1 : (w1.alloc (Obj.cells #[.string mk, .slice none 0 0] 49)).heap[w1.heap.size]? = some (.cells #[.string mk, .slice none 0 0] 49 (0, 0)) := heap_alloc_new w1 _
  have HBW1 := Lib.hid hbw1; have HBC1 := Lib.hid hbc1
  have HTA := Lib.hid (HTT1.out.below hba1)
  have hby1 := HTT1.out.by_
  have hn1 := sizeR_bd e1 hby1
  rw [HS1.out] at hn1
  obtain ⟨N, hN⟩ : ∃ N : Nat, n1 = (N : Int) := ⟨n1.toNat, by omega⟩
  subst hN
  rw [Int.toNat_natCast] at HF1
  have hN32 : N ≤ 4294967295 := by omega
  clear hbw1 hba1 hbc1 hb1 hby1 hn1
  go_wp2_with fail
  refine (size_any w.heap.size A1 c1 y1 e1 _ HTA.out).mono ?_
  rintro e w2 ⟨rfl, ⟨A2, c2, hT2⟩, hst2⟩
  rw [HS1.out] at hT2 ⊢
  dsimp only at hT2 ⊢
  have hbc2 := hst2.blk HTA.out.blk HBC1.out (by omega)
  have HT2 := Lib.hid hT2; have HBC2 := Lib.hid hbc2
  have HBW2 := Lib.hid (hst2.below HBW1.out (Nat.le_refl _))
  have hs2 : w1.heap.size < w2.heap.size := blk_lt hbc2
  have hy2 : y2.length ≤ y1.length ∧ (e2 = 0 → e1 = 0 ∧ y2.length + 4 ≤ y1.length) := by
    have h := HS1.out
    unfold sizeR at h
    split at h
    · rename_i h2
      simp only [Prod.mk.injEq] at h
      obtain ⟨_, h3, _⟩ := h
      subst h3
      rw [List.length_drop]
      refine ⟨by omega, fun _ => ⟨h2.1, by omega⟩⟩
    · simp only [Prod.mk.injEq] at h
      obtain ⟨_, h3, h4⟩ := h
      subst h3; subst h4
      exact ⟨Nat.le_refl _, fun h => by cases h⟩
  have hyl : y2.length ≤ ys.length := by have := HLEN.out.1; omega
  clear hT2 hst2 hbc2 hy2
  go_wp2_with fail
  go_loopw [6] (fun i wr => Hid (∃ (j : Nat) (zs : List Int) (e : Int) (A' : Option Addr) (c' : Nat) (l : List ByteArray) (v : Value), i = .int .i64 j ∧ IsT wr w.heap.size A' c' zs e ∧ wr.heap[w1.heap.size]? = some (.cells #[.string mk, v] 49 (0, 0)) ∧ OwnS wr (w1.heap.size + 1) v l ∧ (l ++ (fieldsR j zs e).1, (fieldsR j zs e).2) = (fs, y3, e3) ∧ Below w.heap.size w wr ∧ (zs.length + 4 * l.length ≤ ys.length + 4 ∧ (e = 0 → zs.length + 4 * l.length ≤ ys.length)) ∧ j ≤ 4294967295)) (fun i _ => (intOf i).toNat)
  case atStart => exact Lib.hid ⟨N, y2, e2, A2, c2, [], .slice none 0 0, rfl, HT2.out, HBC2.out, own_nil _ _ _ _, by rw [HF1.out]; rfl, HBW2.out, ⟨by simp; omega, fun _ => by simpa using hyl⟩, hN32⟩
  case round =>
    obtain ⟨j, zs, e, A3, c3, l, v, rfl, hT, hbc, hown, hfr, hbr, hlen, hj⟩ := hrel.out
    clear hrel
    have HT := Lib.hid hT; have HBC := Lib.hid hbc; have HO := Lib.hid hown; have HFR := Lib.hid hfr; have HBR := Lib.hid hbr; have HLN := Lib.hid hlen
    obtain ⟨Av, cv, hv⟩ := own_slice hown
    subst hv
    have c0 := blk_cell hbc 0
    have c1 := blk_cell hbc 1
    have fz1 := blk_frozen hbc 1
    have k0 := blk_cell hT.blk 0
    have k1 := blk_cell hT.blk 1
    have fk1 := blk_frozen hT.blk 1
    simp only [List.getElem?_toArray, List.getElem?_cons_zero, List.getElem?_cons_succ] at c0 c1 k0 k1
    have hne : w1.heap.size ≠ w.heap.size := by omega
    clear hT hbc hown hfr hbr hlen
    by_cases he : e = 0
    · subst he
      cases j with
      | zero =>
        have hf := HFR.out
        simp only [fieldsR, List.append_nil, Prod.mk.injEq] at hf
        obtain ⟨rfl, rfl, rfl⟩ := hf
        by_cases hz : zs = []
        · have hzl : decide ((0 : Int) < (zs.length : Int)) = false := by rw [hz]; rfl
          have hzm : ¬ 0 < zs.length := by rw [hz]; exact Nat.lt_irrefl 0
          have HX : Hid (commentR ys = (mk, l, 0)) := Lib.hid (by rw [HV.out, if_neg (fun h => h.2 hz)])
          clear hz
          go_wp2
          go_quiet (fail)
          go_wp2
          go_ret2
          refine ⟨.slice Av l.length cv, by rw [HX.out]; rfl, ?_, bt HBR.out (bd _ _)⟩
          rw [HX.out]
          exact own_weaken (pw_own_below HO.out (bd _ _)) (by omega)
        · have hzl : decide ((0 : Int) < (zs.length : Int)) = true := decide_eq_true (by have := List.length_pos_iff.2 hz; omega)
          have HX : Hid (commentR ys = (mk, l, 3)) := Lib.hid (by rw [HV.out, if_pos ⟨rfl, hz⟩])
          have hzp : 0 < zs.length := List.length_pos_iff.2 hz
          clear hz
          go_wp2
          go_quiet (fail)
          go_wp2
          go_ret2
          refine ⟨.slice Av l.length cv, by rw [HX.out]; rfl, ?_, ?_⟩
          · rw [HX.out]
            exact own_weaken (pw_own_below (own_setCell (p := ⟨w.heap.size, 1, none⟩) HO.out (own_ne HO.out HT.out.blk (by decide)) (.int .i64 3)) (bd _ _)) (by omega)
          · exact bt (HBR.out.setCell (Nat.le_refl _) _) (bd _ _)
      | succ j =>
        have hj0 : decide ((0 : Int) < ((j + 1 : Nat) : Int)) = true := decide_eq_true (by omega)
        go_wp2_with fail
        have hfr2 : (fieldsR (j + 1) zs 0).1 = (textR zs 0).1 :: (fieldsR j (textR zs 0).2.1 (textR zs 0).2.2).1 ∧ (fieldsR (j + 1) zs 0).2 = (fieldsR j (textR zs 0).2.1 (textR zs 0).2.2).2 := by
          rw [fieldsR, if_neg (by simp)]; exact ⟨rfl, rfl⟩
        have hfr3 := HFR.out
        rw [hfr2.1, hfr2.2] at hfr3
        have htl := textR_len zs 0
        obtain ⟨⟨tx, zs', e'⟩, htx⟩ : ∃ t, textR zs 0 = t := ⟨_, rfl⟩
        have HTX := Lib.hid htx
        rw [htx] at hfr3 htl
        dsimp only at hfr3 htl
        have HF3 := Lib.hid hfr3; have HTL := Lib.hid htl
        have hbd := bd1 wr
        have hsr : w1.heap.size < wr.heap.size := blk_lt HBC.out
        have HTD := Lib.hid (HT.out.below hbd)
        have HBCD := Lib.hid (blk_below HBC.out hbd)
        have HOD := Lib.hid (pw_own_below HO.out hbd)
        have HBRD := Lib.hid (bt HBR.out hbd)
        have hkd : wr.drew.cell? ⟨w1.heap.size, 1, none⟩ = some (.slice Av l.length cv) := blk_cell HBCD.out 1
        have HKD := Lib.hid hkd
        have hll : l.length ≤ 1000000000 := by have := HLN.out.1; omega
        clear hfr2 hfr3 htx htl hbd hkd c0 k0 k1 fz1 fk1
        go_region_law (first | ((refine step_append_new (W := w4) (w0 := w4) (w1.heap.size + 1) rfl (.tmp 27) (.tmp 30) 47 9 (.string ⟨#[]⟩) 1 16 rfl Try.underlying47 info_string rfl (by decide) (by decide) (.slice Av l.length cv) l.length (encs Value.string l) [.string tx] rfl rfl rfl (by intro u hu; rw [List.mem_singleton] at hu; subst hu; rfl) HO4.out (Below.refl _ _) hs4 (by omega) ?_); (intro v5 w5 hown5 hb5 hg5 hat5); obtain ⟨Av5, cv5, hv5⟩ := own_slice hown5; subst hv5; have hk5 : w5.cell? ⟨w1.heap.size, 1, none⟩ = some (.slice Av l.length cv) := (hb5.cell (p := ⟨w1.heap.size, 1, none⟩) (Nat.lt_succ_self _)).trans hk4; have hz5 : w5.frozen? ⟨w1.heap.size, 1, none⟩ = false := (hb5.frozen (p := ⟨w1.heap.size, 1, none⟩) (Nat.lt_succ_self _)).trans (blk_frozen HBC4.out 1)) | ((go_simp; go_at_call 132; (with_reducible refine (text_any w.heap.size A3 c3 zs 0 _ HTD.out).mono ?_); (rintro e w4 ⟨rfl, ⟨A4, c4, hT4⟩, hst4⟩); rw [HTX.out] at hT4 ⊢; have HT4 := Lib.hid hT4; have hbc4 := hst4.blk HTD.out.blk HBCD.out hne; have HBC4 := Lib.hid hbc4; have HO4 := Lib.hid (own_move HOD.out (fun k hk => hst4.keep.2 k (own_lt HOD.out k hk) (fun he => by have := own_base HOD.out k hk; omega) (fun he => by cases he))); have HB4 := Lib.hid (hst4.below HBRD.out (Nat.le_refl _)); have hs4 : w1.heap.size + 1 ≤ w4.heap.size := blk_lt hbc4; have hk4 : w4.cell? ⟨w1.heap.size, 1, none⟩ = some (.slice Av l.length cv) := blk_cell hbc4 1; have hk4b : (w4.alloc (Obj.cells #[.string tx] 9)).cell? ⟨w1.heap.size, 1, none⟩ = some (.slice Av l.length cv) := pw_cell_below (ba _ _) hk4)))
        all_goals
          go_wp2
          go_roundw
          case rel =>
            refine Lib.hid ⟨j, zs', e', A4, c4, l ++ [tx], .slice Av5 (l.length + 1) cv5, by go_num, ?_, ?_, ?_, ?_, ?_, ?_, by omega⟩
            · exact (HT4.out.low hb5 (by omega)).far (p := ⟨w1.heap.size, 1, none⟩) hlt1 _
            · have hb : w5.heap[w1.heap.size]? = some (.cells #[.string mk, .slice Av l.length cv] 49 (0, 0)) := (hb5.block _ (Nat.lt_succ_self _)).trans HBC4.out
              simpa using blk_set hb 1 (.slice Av5 (l.length + 1) cv5)
            · have hb : w5.heap[w1.heap.size]? = some (.cells #[.string mk, .slice Av l.length cv] 49 (0, 0)) := (hb5.block _ (Nat.lt_succ_self _)).trans HBC4.out
              have h := own_setCell (p := ⟨w1.heap.size, 1, none⟩) hown5 (own_ne hown5 hb (by decide)) (.slice Av5 (l.length + 1) cv5)
              unfold OwnS
              rw [List.length_append, encs_append]
              exact h
            · have h := HF3.out
              rw [List.append_assoc]
              exact h
            · exact (HB4.out.trans (hb5.mono (by omega))).setCell (by show w.heap.size ≤ w1.heap.size; omega) _
            · have h1 := HTL.out; have h2 := HLN.out.2 (by first | rfl | trivial)
              rw [List.length_append]
              simp only [List.length_cons, List.length_nil]
              refine ⟨by omega, fun h => ?_⟩
              have := h1.2 h
              omega
          case measure => simp [intOf] <;> omega
    · have hf : l = fs ∧ zs = y3 ∧ e = e3 := by
        have hf := HFR.out
        cases j with
        | zero => simpa [fieldsR] using hf
        | succ j => rw [fieldsR, if_pos he] at hf; simpa using hf
      obtain ⟨rfl, rfl, rfl⟩ := hf
      have heb : (e == 0) = false := by rw [beq_eq_false_iff_ne]; exact he
      have HX : Hid (commentR ys = (mk, l, e)) := Lib.hid (by rw [HV.out, if_neg (fun h => he h.1)])
      clear he
      by_cases hj0 : 0 < j
      · have hjd : decide ((0 : Int) < (j : Int)) = true := decide_eq_true (by omega)
        go_wp2
        go_quiet (fail)
        go_wp2
        go_ret2
        refine ⟨.slice Av l.length cv, by rw [HX.out]; rfl, ?_, bt HBR.out (bd _ _)⟩
        rw [HX.out]
        exact own_weaken (pw_own_below HO.out (bd _ _)) (by omega)
      · have hjd : decide ((0 : Int) < (j : Int)) = false := decide_eq_false (by omega)
        go_wp2
        go_quiet (fail)
        go_wp2
        go_ret2
        refine ⟨.slice Av l.length cv, by rw [HX.out]; rfl, ?_, bt HBR.out (bd _ _)⟩
        rw [HX.out]
        exact own_weaken (pw_own_below HO.out (bd _ _)) (by omega)
end Go.Proofs.Ytdpgojcljlfnbaa
end
