/- Contracts of meta.texts: size, text; bytes. -/
import Derived.Test.YtdpgojcljlfnbaaText
import Derived.Test.YtdpgojcljlfnbaaReader

set_option linter.unusedVariables false
set_option linter.unusedSimpArgs false
set_option maxRecDepth 100000
namespace Go.Proofs.Ytdpgojcljlfnbaa
open Go.RowKit
open Go.Proofs.YtdpgojcljlfnbaaW.PrintWords

theorem bits_or_i64_nat (a b : Nat) (ha : a < 4611686018427387904) (hb : b < 4611686018427387904) : bits .or .i64 (a : Int) (b : Int) = ((a ||| b : Nat) : Int) := by
  have hx : a ||| b < 2 ^ 62 := Nat.or_lt_two_pow (by omega) (by omega)
  have h1 : (BitVec.ofInt 64 (a : Int)).toNat = a := by
    rw [BitVec.ofInt_natCast, BitVec.toNat_ofNat]; exact Nat.mod_eq_of_lt (by omega)
  have h2 : (BitVec.ofInt 64 (b : Int)).toNat = b := by
    rw [BitVec.ofInt_natCast, BitVec.toNat_ofNat]; exact Nat.mod_eq_of_lt (by omega)
  show IntKind.i64.wrap ((BitVec.ofInt 64 (a : Int) ||| BitVec.ofInt 64 (b : Int)).toNat : Int) = _
  rw [BitVec.toNat_or, h1, h2, IntWalk.i64_in _ (by omega)]
theorem or_up (a b k : Nat) (ha : a < 2 ^ k) (hk : k ≤ 40) (hb : b < 2 ^ 20) : bits .or .i64 (a : Int) ((b * 2 ^ k : Nat) : Int) = ((a + b * 2 ^ k : Nat) : Int) := by
  have h1 : 2 ^ k ≤ 2 ^ 40 := Nat.pow_le_pow_right (by decide) hk
  have h2 : b * 2 ^ k < 2 ^ 20 * 2 ^ 40 := Nat.lt_of_lt_of_le (Nat.mul_lt_mul_of_pos_right hb (Nat.pow_pos (by decide))) (Nat.mul_le_mul_left _ h1)
  rw [bits_or_i64_nat _ _ (by omega) (by omega), Nat.or_comm, or_step _ _ _ ha, Nat.add_comm]
/-- A number of four bytes, the lowest one first. -/
def num4 (ys : List Int) : Int := ys.getD 0 0 + 256 * ys.getD 1 0 + 65536 * ys.getD 2 0 + 16777216 * ys.getD 3 0
def IsByte (ys : List Int) : Prop := ∀ y ∈ ys, 0 ≤ y ∧ y < 256
theorem IsByte.drop {ys : List Int} (h : IsByte ys) (k : Nat) : IsByte (ys.drop k) := fun y hy => h y (List.mem_of_mem_drop hy)
theorem IsByte.at_ {ys : List Int} (h : IsByte ys) (i : Nat) (hi : i < ys.length) : ∃ b : Nat, ys.getD i 0 = (b : Int) ∧ b < 256 := by
  have := h _ (getD_mem ys i hi)
  exact ⟨(ys.getD i 0).toNat, by omega, by omega⟩
/-- Bytes that lie ahead of block g. -/
def RdAway (w : World) (g : Nat) (A : Option Addr) (n : Nat) (ys : List Int) : Prop := ReadsInt w .u8 A n ys ∧ ∀ ad, A = some ad → ad.block < g
theorem RdAway.set {w : World} {g : Nat} {A : Option Addr} {n : Nat} {ys : List Int} (h : RdAway w g A n ys) (j : Nat) (u : Value) : RdAway (w.setCell ⟨g, j, none⟩ u) g A n ys := by
  refine ⟨⟨h.1.1, h.1.2.1, fun hn => ?_⟩, h.2⟩
  obtain ⟨ad, e, hc⟩ := h.1.2.2 hn
  refine ⟨ad, e, fun i hi => ?_⟩
  rw [← hc i hi]
  refine World.cell?_of_block ?_
  have hb : (ad.add i).block = ad.block := by unfold Addr.add; split <;> rfl
  rw [hb]
  exact Below.heap_setCell w ⟨g, j, none⟩ u ad.block (Nat.ne_of_lt (h.2 ad e))
theorem RdAway.below {w w1 : World} {g : Nat} {A : Option Addr} {n : Nat} {ys : List Int} (h : RdAway w g A n ys) (hb : Below w.heap.size w w1) : RdAway w1 g A n ys := ⟨h.1.below hb, h.2⟩
theorem RdAway.cut {w : World} {g : Nat} {A : Option Addr} {n : Nat} {ys : List Int} (h : RdAway w g A n ys) (i c : Nat) (hi : i ≤ n) (hc : n ≤ c) : RdAway w g (if c = i then A else A.map (·.add i)) (n - i) (ys.drop i) := by
  refine ⟨h.1.drop_ i hi hc, fun ad e => ?_⟩
  split at e
  · exact h.2 ad e
  · cases A with
    | none => cases e
    | some a =>
      simp only [Option.map_some, Option.some.injEq] at e
      subst e
      have hb : (a.add i).block = a.block := by unfold Addr.add; split <;> rfl
      rw [hb]; exact h.2 a rfl
structure IsT (w : World) (g : Nat) (A : Option Addr) (c : Nat) (ys : List Int) (e : Int) : Prop where
  blk : w.heap[g]? = some (.cells #[.slice A ys.length c, .int .i64 e] 193 (0, 0))
  rd : RdAway w g A ys.length ys
  cap : ys.length ≤ c
  by_ : IsByte ys
theorem IsT.below {w w1 : World} {g : Nat} {A : Option Addr} {c : Nat} {ys : List Int} {e : Int} (h : IsT w g A c ys e) (hb : Below w.heap.size w w1) : IsT w1 g A c ys e := ⟨blk_below h.blk hb, h.rd.below hb, h.cap, h.by_⟩
theorem RdAway.low {w w1 : World} {g B : Nat} {A : Option Addr} {n : Nat} {ys : List Int} (h : RdAway w g A n ys) (hb : Below B w w1) (hB : g ≤ B) : RdAway w1 g A n ys := by
  refine ⟨⟨h.1.1, h.1.2.1, fun hn => ?_⟩, h.2⟩
  obtain ⟨ad, e, hc⟩ := h.1.2.2 hn
  refine ⟨ad, e, fun i hi => ?_⟩
  rw [← hc i hi]
  refine World.cell?_of_block ?_
  have hbk : (ad.add i).block = ad.block := by unfold Addr.add; split <;> rfl
  rw [hbk]
  exact hb.block ad.block (Nat.lt_of_lt_of_le (h.2 ad e) hB)
theorem IsT.low {w w1 : World} {g B : Nat} {A : Option Addr} {c : Nat} {ys : List Int} {e : Int} (h : IsT w g A c ys e) (hb : Below B w w1) (hB : g < B) : IsT w1 g A c ys e := ⟨(hb.block g hB).trans h.blk, h.rd.low hb (Nat.le_of_lt hB), h.cap, h.by_⟩
theorem IsT.far {w : World} {g : Nat} {A : Option Addr} {c : Nat} {ys : List Int} {e : Int} (h : IsT w g A c ys e) {p : Addr} (hp : g < p.block) (u : Value) : IsT (w.setCell p u) g A c ys e := by
  have hb : Below p.block w (w.setCell p u) := (Below.refl _ _).setCell (Nat.le_refl _) u
  exact h.low hb hp
theorem RStep.set_at {w w1 : World} {g : Nat} (h : RStep w w1 g) (j : Nat) (u : Value) : RStep w (w1.setCell ⟨g, j, none⟩ u) g := ⟨h.os, h.tape, h.output, h.keep.set_ j _⟩
theorem size_no (g : Nat) (A : Option Addr) (c : Nat) (ys : List Int) (e : Int) (w : World) (hT : IsT w g A c ys e) (h : ¬ (e = 0 ∧ 4 ≤ ys.length)) :
    Calls Try.prog 133 #[.pointer (some ⟨g, 0, none⟩)] w fun en w' => en = .returned (.int .i64 0) ∧ IsT w' g A c ys 2 ∧ RStep w w' g := by
  have HT := Lib.hid hT
  have c0 := blk_cell hT.blk 0
  have c1 := blk_cell hT.blk 1
  have f1 := blk_frozen hT.blk 1
  simp only [List.getElem?_toArray, List.getElem?_cons_zero, List.getElem?_cons_succ] at c0 c1
  clear hT
  by_cases he : e = 0
  · have hl : ys.length < 4 := by omega
    have hld : decide ((ys.length : Int) < 4) = true := decide_eq_true (by omega)
    subst he
    clear h
    go_enter Try.func133, Try.ntmps133
    go_wp2
    go_ret
    exact ⟨rfl, ⟨by simpa using blk_set HT.out.blk 1 (.int .i64 2), HT.out.rd.set 1 _, HT.out.cap, HT.out.by_⟩, (RStep.refl w g).set_at 1 _⟩
  · have heb : (e != 0) = true := by rw [bne_iff_ne]; exact he
    have heb2 : (e == 0) = false := by rw [beq_eq_false_iff_ne]; exact he
    clear h he
    go_enter Try.func133, Try.ntmps133
    go_wp2
    go_ret
    exact ⟨rfl, ⟨by simpa using blk_set HT.out.blk 1 (.int .i64 2), HT.out.rd.set 1 _, HT.out.cap, HT.out.by_⟩, (RStep.refl w g).set_at 1 _⟩
def SizeYes (g : Nat) (v : Value) (ys : List Int) (w : World) (en : Ending) (w' : World) : Prop := en = .returned v ∧ (∃ A' c', IsT w' g A' c' ys 0) ∧ RStep w w' g
set_option maxHeartbeats 1000000 in
theorem size_yes (g : Nat) (A : Option Addr) (c : Nat) (ys : List Int) (w : World) (hT : IsT w g A c ys 0) (hl : 4 ≤ ys.length) :
    Calls Try.prog 133 #[.pointer (some ⟨g, 0, none⟩)] w (SizeYes g (.int .i64 (num4 ys)) (ys.drop 4) w) := by
  have HT := Lib.hid hT
  have c0 := blk_cell hT.blk 0
  have c1 := blk_cell hT.blk 1
  have f0 := blk_frozen hT.blk 0
  simp only [List.getElem?_toArray, List.getElem?_cons_zero, List.getElem?_cons_succ] at c0 c1
  obtain ⟨b0, e0, hb0⟩ := hT.by_.at_ 0 (by omega)
  obtain ⟨b1, e1, hb1⟩ := hT.by_.at_ 1 (by omega)
  obtain ⟨b2, e2, hb2⟩ := hT.by_.at_ 2 (by omega)
  obtain ⟨b3, e3, hb3⟩ := hT.by_.at_ 3 (by omega)
  obtain ⟨ad, rfl, hc⟩ := hT.rd.1.2.2 (by omega)
  have q0 := hc 0 (by omega); have q1 := hc 1 (by omega); have q2 := hc 2 (by omega); have q3 := hc 3 (by omega)
  have q0 : w.cell? ad = some (.int .u8 (ys.getD 0 0)) := by simpa [Addr.add] using q0
  have q1 : w.cell? ⟨ad.block, ad.off + 1, none⟩ = some (.int .u8 (ys.getD 1 0)) := by simpa [Addr.add] using q1
  have q2 : w.cell? ⟨ad.block, ad.off + 2, none⟩ = some (.int .u8 (ys.getD 2 0)) := by simpa [Addr.add] using q2
  have q3 : w.cell? ⟨ad.block, ad.off + 3, none⟩ = some (.int .u8 (ys.getD 3 0)) := by simpa [Addr.add] using q3
  rw [e0] at q0; rw [e1] at q1; rw [e2] at q2; rw [e3] at q3
  have o0 : bits .or .i64 (0 : Int) (b0 : Int) = (b0 : Int) := by have := bits_or_i64_nat 0 b0 (by omega) (by omega); simpa using this
  obtain ⟨n1, hn1⟩ : ∃ n1, b0 + b1 * 2 ^ 8 = n1 := ⟨_, rfl⟩
  obtain ⟨n2, hn2⟩ : ∃ n2, n1 + b2 * 2 ^ 16 = n2 := ⟨_, rfl⟩
  obtain ⟨n3, hn3⟩ : ∃ n3, n2 + b3 * 2 ^ 24 = n3 := ⟨_, rfl⟩
  have hv : num4 ys = (n3 : Int) := by unfold num4; rw [e0, e1, e2, e3]; omega
  have HV := Lib.hid hv
  have o1 : bits .or .i64 (b0 : Int) ((b1 : Int) * 256) = (n1 : Int) := by rw [← hn1, show ((b1 : Int) * 256) = ((b1 * 2 ^ 8 : Nat) : Int) from by omega]; exact or_up b0 b1 8 (by omega) (by omega) (by omega)
  have o2 : bits .or .i64 (n1 : Int) ((b2 : Int) * 65536) = (n2 : Int) := by rw [← hn2, show ((b2 : Int) * 65536) = ((b2 * 2 ^ 16 : Nat) : Int) from by omega]; exact or_up n1 b2 16 (by omega) (by omega) (by omega)
  have o3 : bits .or .i64 (n2 : Int) ((b3 : Int) * 16777216) = (n3 : Int) := by rw [← hn3, show ((b3 : Int) * 16777216) = ((b3 * 2 ^ 24 : Nat) : Int) from by omega]; exact or_up n2 b3 24 (by omega) (by omega) (by omega)
  have hcap := hT.cap
  have hld : decide ((ys.length : Int) < 4) = false := decide_eq_false (by omega)
  clear hT e0 e1 e2 e3 hc hv hn1 hn2 hn3
  go_enter Try.func133, Try.ntmps133
  go_wp2
  refine wp_loop_rounds 5 ?_
  rw [rounds_succ]
  go_wp2
  rw [rounds_succ]
  go_wp2
  rw [rounds_succ]
  go_wp2
  rw [rounds_succ]
  go_wp2
  rw [rounds_succ]
  clear q0 q1 q2 q3 o0 o1 o2 o3
  have hdl : (ys.drop 4).length = ys.length - 4 := List.length_drop
  have HDL := Lib.hid hdl
  have hrd := HT.out.rd.cut 4 c hl hcap
  have HRD := Lib.hid hrd
  clear hdl hrd
  by_cases h4 : c = 4
  · have hrd := HRD.out
    rw [if_pos h4, ← HDL.out] at hrd
    have HR4 := Lib.hid hrd
    clear hrd
    go_wp2
    go_ret
    refine ⟨ret_int HV.out.symm, ⟨_, _, by have h := blk_set HT.out.blk 0 (.slice (some ad) (ys.length - 4) 0); rw [← HDL.out] at h; simpa using h, ?_, by have := HDL.out; have := hcap; omega, HT.out.by_.drop 4⟩, (RStep.refl w g).set_at 0 _⟩
    exact HR4.out.set 0 _
  · have hrd := HRD.out
    have ha : (some ad).map (·.add 4) = some (⟨ad.block, ad.off + 4, none⟩ : Addr) := by simp [Addr.add]
    rw [if_neg h4, ha, ← HDL.out] at hrd
    have HR4 := Lib.hid hrd
    clear hrd ha
    go_wp2
    go_ret
    refine ⟨ret_int HV.out.symm, ⟨_, _, by have h := blk_set HT.out.blk 0 (.slice (some ⟨ad.block, ad.off + 4, none⟩) (ys.length - 4) (c - 4)); rw [← HDL.out] at h; simpa using h, ?_, by have := HDL.out; omega, HT.out.by_.drop 4⟩, (RStep.refl w g).set_at 0 _⟩
    exact HR4.out.set 0 _
def TRes (g : Nat) (v : Value) (ys : List Int) (e : Int) (w : World) (en : Ending) (w' : World) : Prop := en = .returned v ∧ (∃ A' c', IsT w' g A' c' ys e) ∧ RStep w w' g
/-- What size tells, what is left, what is wrong. -/
def sizeR (ys : List Int) (e : Int) : Int × List Int × Int := if e = 0 ∧ 4 ≤ ys.length then (num4 ys, ys.drop 4, 0) else (0, ys, 2)
theorem size_any (g : Nat) (A : Option Addr) (c : Nat) (ys : List Int) (e : Int) (w : World) (hT : IsT w g A c ys e) :
    Calls Try.prog 133 #[.pointer (some ⟨g, 0, none⟩)] w (TRes g (.int .i64 (sizeR ys e).1) (sizeR ys e).2.1 (sizeR ys e).2.2 w) := by
  by_cases h : e = 0 ∧ 4 ≤ ys.length
  · obtain ⟨rfl, hl⟩ := h
    have hs : sizeR ys 0 = (num4 ys, ys.drop 4, 0) := by unfold sizeR; rw [if_pos ⟨rfl, hl⟩]
    rw [hs]
    exact size_yes g A c ys w hT hl
  · have hs : sizeR ys e = (0, ys, 2) := by unfold sizeR; rw [if_neg h]
    rw [hs]
    exact (size_no g A c ys e w hT h).mono fun en w' ⟨h1, h2, h3⟩ => ⟨h1, ⟨A, c, h2⟩, h3⟩
theorem num4_bd {ys : List Int} (h : IsByte ys) (hl : 4 ≤ ys.length) : 0 ≤ num4 ys ∧ num4 ys ≤ 4294967295 := by
  obtain ⟨b0, e0, hb0⟩ := h.at_ 0 (by omega)
  obtain ⟨b1, e1, hb1⟩ := h.at_ 1 (by omega)
  obtain ⟨b2, e2, hb2⟩ := h.at_ 2 (by omega)
  obtain ⟨b3, e3, hb3⟩ := h.at_ 3 (by omega)
  unfold num4
  rw [e0, e1, e2, e3]; omega
/-- What text tells, what is left, what is wrong. -/
def textR (ys : List Int) (e : Int) : ByteArray × List Int × Int :=
  if (sizeR ys e).2.2 ≠ 0 then (⟨#[]⟩, (sizeR ys e).2.1, 2)
  else if ((sizeR ys e).2.1.length : Int) < (sizeR ys e).1 then (⟨#[]⟩, (sizeR ys e).2.1, 2)
  else (strOfNums ((sizeR ys e).2.1.take (sizeR ys e).1.toNat), (sizeR ys e).2.1.drop (sizeR ys e).1.toNat, 0)
theorem sizeR_bd {ys : List Int} (e : Int) (h : IsByte ys) : 0 ≤ (sizeR ys e).1 ∧ (sizeR ys e).1 ≤ 4294967295 := by
  unfold sizeR
  split
  · rename_i hc
    exact num4_bd h hc.2
  · exact ⟨Int.le_refl _, by show (0 : Int) ≤ 4294967295; omega⟩
theorem run_cut_b (A : Option Addr) (n c m : Nat) (hm : m ≤ n) (W : World) : (Instr.slice 37 (.slice A n c) (some (.int .i64 (m : Int))) none none).run Try.prog W = .ok (.slice (if c = m then A else A.map (·.add m)) (n - m) (c - m)) W := by
  obtain ⟨i, hi, hz⟩ := Option.map_eq_some_iff.1 info_u8
  simp only [Prod.mk.injEq] at hz
  have hel : Try.prog.elem 37 = 5 := by simp [Program.elem, Try.underlying37]
  have hu : Try.prog.underlying 37 = some (.slice (Try.prog.elem 37)) := by rw [hel]; exact Try.underlying37
  rw [run_slice_l W 37 A n c hu .i64 (m : Int) (Int.natCast_nonneg _) (by omega), hel]
  simp [sizeOf, typeInfo, hi, hz.2.1, sliced, Result.andThen]
set_option maxHeartbeats 1000000 in
theorem text_any (g : Nat) (A : Option Addr) (c : Nat) (ys : List Int) (e : Int) (w : World) (hT : IsT w g A c ys e) :
    Calls Try.prog 132 #[.pointer (some ⟨g, 0, none⟩)] w (TRes g (.string (textR ys e).1) (textR ys e).2.1 (textR ys e).2.2 w) := by
  have HT := Lib.hid hT
  have hbd := sizeR_bd e hT.by_
  have HV : Hid (textR ys e = if (sizeR ys e).2.2 ≠ 0 then (⟨#[]⟩, (sizeR ys e).2.1, 2) else if ((sizeR ys e).2.1.length : Int) < (sizeR ys e).1 then (⟨#[]⟩, (sizeR ys e).2.1, 2) else (strOfNums ((sizeR ys e).2.1.take (sizeR ys e).1.toNat), (sizeR ys e).2.1.drop (sizeR ys e).1.toNat, 0)) := Lib.hid rfl
  have HC := Lib.hid (size_any g A c ys e w hT)
  obtain ⟨sr, hsr⟩ : ∃ sr, sizeR ys e = sr := ⟨_, rfl⟩
  rw [hsr] at HV HC hbd
  obtain ⟨nn, zs, er⟩ := sr
  dsimp only at HV HC hbd
  obtain ⟨m, hm⟩ : ∃ m : Nat, nn = (m : Int) := ⟨nn.toNat, by omega⟩
  subst hm
  have hm32 : m ≤ 4294967295 := by omega
  clear hT hsr hbd
  go_enter Try.func132, Try.ntmps132
  go_wp2_with fail
  refine HC.out.mono ?_
  rintro en w1 ⟨rfl, ⟨A1, c1, hT1⟩, hs1⟩
  have HT1 := Lib.hid hT1; have HS1 := Lib.hid hs1
  have k0 := blk_cell hT1.blk 0
  have k1 := blk_cell hT1.blk 1
  have f0 := blk_frozen hT1.blk 0
  have f1 := blk_frozen hT1.blk 1
  simp only [List.getElem?_toArray, List.getElem?_cons_zero, List.getElem?_cons_succ] at k0 k1
  have hcap := hT1.cap
  clear hT1 hs1
  by_cases he : er = 0
  · subst he
    by_cases hlt : zs.length < m
    · have hd : decide ((zs.length : Int) < (m : Int)) = true := decide_eq_true (by omega)
      have HX : Hid (textR ys e = (⟨#[]⟩, zs, 2)) := Lib.hid (by rw [HV.out, if_neg (by simp), if_pos (by omega)])
      go_wp2
      go_ret
      refine ⟨by rw [HX.out]; rfl, ?_, HS1.out.set_at 1 _⟩
      rw [HX.out]
      exact ⟨A1, c1, by simpa using blk_set HT1.out.blk 1 (.int .i64 2), HT1.out.rd.set 1 _, HT1.out.cap, HT1.out.by_⟩
    · have hd : decide ((zs.length : Int) < (m : Int)) = false := decide_eq_false (by omega)
      have HX : Hid (textR ys e = (strOfNums (zs.take m), zs.drop m, 0)) := Lib.hid (by rw [HV.out, if_neg (by simp), if_neg (by omega), Int.toNat_natCast])
      have hmz : m ≤ zs.length := by omega
      have hcv := string_of_reads (P := Try.prog) (w := w1) (c := c1) Try.underlying37 Try.underlying5 Try.underlying9 (HT1.out.rd.1.take_ m hmz)
      have hct := run_cut_b A1 zs.length c1 m hmz
      have hrd := HT1.out.rd.cut m c1 hmz hcap
      obtain ⟨X, hX⟩ : ∃ X, (if c1 = m then A1 else A1.map (·.add m)) = X := ⟨_, rfl⟩
      rw [hX] at hct hrd
      have hzl : (zs.drop m).length = zs.length - m := List.length_drop
      rw [← hzl] at hrd
      have HRD := Lib.hid hrd; have HZL := Lib.hid hzl
      clear hX hrd hzl
      have hmc : (m : Int) ≤ (c1 : Int) := by omega
      go_wp2
      go_ret
      refine ⟨by rw [HX.out]; rfl, ?_, HS1.out.set_at 0 _⟩
      rw [HX.out]
      dsimp only
      refine ⟨X, c1 - m, ?_, HRD.out.set 0 _, by have := HZL.out; omega, HT1.out.by_.drop m⟩
      have h := blk_set HT1.out.blk 0 (.slice X (zs.length - m) (c1 - m))
      rw [← HZL.out] at h
      simpa using h
  · have heb : (er != 0) = true := by rw [bne_iff_ne]; exact he
    have heb2 : (er == 0) = false := by rw [beq_eq_false_iff_ne]; exact he
    have HX : Hid (textR ys e = (⟨#[]⟩, zs, 2)) := Lib.hid (by rw [HV.out, if_pos he])
    clear he
    go_wp2
    go_ret
    refine ⟨by rw [HX.out]; rfl, ?_, HS1.out.set_at 1 _⟩
    rw [HX.out]
    exact ⟨A1, c1, by simpa using blk_set HT1.out.blk 1 (.int .i64 2), HT1.out.rd.set 1 _, HT1.out.cap, HT1.out.by_⟩
end Go.Proofs.Ytdpgojcljlfnbaa
