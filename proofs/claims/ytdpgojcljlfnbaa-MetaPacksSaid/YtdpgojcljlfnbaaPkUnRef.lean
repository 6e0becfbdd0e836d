/- Contracts of functions that the law reaches: UnRef, PacksLaw. -/
import Derived.Test.YtdpgojcljlfnbaaPkPack
import Derived.Test.YtdpgojcljlfnbaaPackTwo
section
/- The contract of serinetteref18.Unpack; byte rows of up to a million bytes. -/
set_option linter.unusedVariables false
set_option linter.unusedSimpArgs false
set_option maxRecDepth 100000
namespace Go.Proofs.Ytdpgojcljlfnbaa
open Go.RowKit
open Go.Proofs.YtdpgojcljlfnbaaW.PrintWords
open Go.Proofs.Ytdpgojcljlfnbaa.PMetaPacks (S39 k39 z39 rd_T39 at_T39)

theorem wr64 (x : Int) (h0 : -9223372036854775808 ≤ x) (h1 : x ≤ 9223372036854775807) : wrap64 x = x := by unfold wrap64; omega
theorem rd_get (b : List Int) (i : Nat) : rd b (i : Int) = b.getD i 0 := by simp [rd]
theorem un_j1 (b : List Int) (hb : BytesI b) (hl : b.length ≤ 1000000) (out : List S39) (i k : Nat) (x : Bool) (hi : i + 4 ≤ b.length) (ho : out.length ≤ 1000000) :
    PMetaPacks.serinetteref18_Unpack.j1 (k + 1) b out (i : Int) (kindB (b.getD i 0)) (sizeAt b i) x =
      if x = true then some ([], 0, 5) else if b.length < i + 4 + (sizeAt b i).toNat then some ([], 0, 2) else
      if 128 ≤ b.getD i 0 then some (out ++ [blockAt b i], ((i + 4 + (sizeAt b i).toNat : Nat) : Int), 0) else
      PMetaPacks.serinetteref18_Unpack.l0 k b (out ++ [blockAt b i]) ((i + 4 + (sizeAt b i).toNat : Nat) : Int) := by
  have hbd := sizeAt_bd hb i
  obtain ⟨n, hn⟩ : ∃ n : Nat, sizeAt b i = (n : Int) := ⟨(sizeAt b i).toNat, by omega⟩
  have hbl : blockAt b i = ⟨kindB (b.getD i 0), (b.take (i + 4 + n)).drop (i + 4)⟩ := by
    unfold blockAt
    rw [hn, Int.toNat_natCast, List.drop_take]
    congr 2
    omega
  rw [hbl]
  rw [hn] at hbd ⊢
  rw [Int.toNat_natCast]
  simp only [PMetaPacks.serinetteref18_Unpack.j1]
  cases x
  · rw [if_neg (show ¬ (false = true) by decide), if_neg (show ¬ (false = true) by decide)]
    rw [wr64 ((b.length : Int) - (i : Int)) (by omega) (by omega), wr64 ((b.length : Int) - (i : Int) - 4) (by omega) (by omega)]
    by_cases h1 : b.length < i + 4 + n
    · rw [if_pos (by omega), if_pos h1]
    · rw [if_neg (by omega), if_neg h1, wr64 ((i : Int) + 4) (by omega) (by omega), wr64 ((i : Int) + 4 + (n : Int)) (by omega) (by omega)]
      rw [if_pos (by omega), if_pos (by omega), if_pos (by omega), if_pos (by omega)]
      rw [Option.bind_some, if_pos (by omega), if_pos (by omega), rd_get]
      rw [show ((i : Int) + 4 + (n : Int)).toNat = i + 4 + n by omega, show ((i : Int) + 4).toNat = i + 4 by omega, show (i : Int) + 4 + (n : Int) = ((i + 4 + n : Nat) : Int) by omega]
  · rw [if_pos rfl, if_pos rfl]
theorem un_go (b : List Int) (hb : BytesI b) (hl : b.length ≤ 1000000) (f : Nat) : ∀ (out : List S39) (i k : Nat), 2 * f ≤ k → b.length < i + f → i ≤ b.length → 4 * out.length ≤ i →
    PMetaPacks.serinetteref18_Unpack.l0 k b out (i : Int) = some (unGo b f out i) := by
  induction f with
  | zero => intro out i k _ h1 h2; omega
  | succ f ih =>
    intro out i k hk hf hi ho
    obtain ⟨k, rfl⟩ : ∃ q, k = q + 2 := ⟨k - 2, by omega⟩
    simp only [PMetaPacks.serinetteref18_Unpack.l0, unGo]
    rw [wr64 ((b.length : Int) - (i : Int)) (by omega) (by omega)]
    by_cases hs : b.length < i + 4
    · rw [if_pos (by omega), if_pos hs]
    · rw [if_neg (by omega), if_neg hs, if_pos (by omega), if_pos (by omega)]
      have e1 : wrap64 ((i : Int) + 1) = ((i + 1 : Nat) : Int) := wr64 _ (by omega) (by omega)
      have e2 : wrap64 ((i : Int) + 2) = ((i + 2 : Nat) : Int) := wr64 _ (by omega) (by omega)
      have e3 : wrap64 ((i : Int) + 3) = ((i + 3 : Nat) : Int) := wr64 _ (by omega) (by omega)
      rw [e1, e2, e3]
      rw [if_pos (by omega), if_pos (by omega), if_pos (by omega), if_pos (by omega), if_pos (by omega), if_pos (by omega)]
      rw [rd_get, rd_get, rd_get, rd_get]
      have y0 := hb.at_ i
      have y1 := hb.at_ (i + 1)
      have y2 := hb.at_ (i + 2)
      have y3 := hb.at_ (i + 3)
      have hkd : Int.tmod (wrap64 (b.getD i 0)) 128 = kindB (b.getD i 0) := by
        rw [wr64 _ (by omega) (by omega)]
        exact Int.tmod_eq_emod_of_nonneg y0.1
      have hsz : wrap64 ((wrap64 ((wrap64 (65536 * (wrap64 (b.getD (i + 1) 0)))) + (wrap64 (256 * (wrap64 (b.getD (i + 2) 0)))))) + (wrap64 (b.getD (i + 3) 0))) = sizeAt b i := by
        rw [wr64 (b.getD (i + 1) 0) (by omega) (by omega), wr64 (b.getD (i + 2) 0) (by omega) (by omega), wr64 (b.getD (i + 3) 0) (by omega) (by omega), wr64 (65536 * b.getD (i + 1) 0) (by omega) (by omega), wr64 (256 * b.getD (i + 2) 0) (by omega) (by omega), wr64 (65536 * b.getD (i + 1) 0 + 256 * b.getD (i + 2) 0) (by omega) (by omega), wr64 _ (by omega) (by omega)]
        rfl
      rw [hkd, hsz]
      by_cases h127 : kindB (b.getD i 0) = 127
      · rw [if_pos h127, if_pos h127]
      · rw [if_neg h127, if_neg h127]
        have hj : (if kindB (b.getD i 0) = 0 then (if (out.length : Int) > 0 then PMetaPacks.serinetteref18_Unpack.j1 (k + 1) b out (i : Int) (kindB (b.getD i 0)) (sizeAt b i) true else PMetaPacks.serinetteref18_Unpack.j1 (k + 1) b out (i : Int) (kindB (b.getD i 0)) (sizeAt b i) false) else PMetaPacks.serinetteref18_Unpack.j1 (k + 1) b out (i : Int) (kindB (b.getD i 0)) (sizeAt b i) ((out.length : Int) == 0)) = PMetaPacks.serinetteref18_Unpack.j1 (k + 1) b out (i : Int) (kindB (b.getD i 0)) (sizeAt b i) (!((kindB (b.getD i 0) == 0) == (out.length == 0))) := by
          have ez : ((out.length : Int) == 0) = (out.length == 0) := by rw [Bool.eq_iff_iff]; simp
          by_cases h0 : kindB (b.getD i 0) = 0
          · have eb : (kindB (b.getD i 0) == 0) = true := by rw [beq_iff_eq]; exact h0
            rw [if_pos h0, eb]
            by_cases ho2 : out.length = 0
            · rw [if_neg (by omega), show (out.length == 0) = true by rw [beq_iff_eq]; exact ho2]; rfl
            · rw [if_pos (by omega), show (out.length == 0) = false by rw [beq_eq_false_iff_ne]; exact ho2]; rfl
          · have eb : (kindB (b.getD i 0) == 0) = false := by rw [beq_eq_false_iff_ne]; exact h0
            rw [if_neg h0, eb, ez]
            cases (out.length == 0) <;> rfl
        rw [hj, un_j1 b hb hl out i k _ (by omega) (by omega)]
        cases hform : ((kindB (b.getD i 0) == 0) == (out.length == 0))
        · rfl
        · rw [if_neg (show ¬ ((!true) = true) by decide), if_neg (show ¬ (true = false) by decide)]
          by_cases h1 : b.length < i + 4 + (sizeAt b i).toNat
          · rw [if_pos h1, if_pos h1]
          · rw [if_neg h1, if_neg h1]
            by_cases h2 : 128 ≤ b.getD i 0
            · rw [if_pos h2, if_pos h2]
            · rw [if_neg h2, if_neg h2]
              exact ih _ _ k (by omega) (by omega) (by omega) (by simp; omega)
theorem refUnpack_f (b : List Int) (hb : BytesI b) (hl : b.length ≤ 1000000) : PMetaPacks.serinetteref18_Unpack.f (2 * b.length + 2) b = some (unS b) := by
  unfold PMetaPacks.serinetteref18_Unpack.f unS
  by_cases h4 : b.length < 4
  · rw [if_pos (by omega), if_pos h4]
  · rw [if_neg (by omega), if_neg h4, if_pos (by omega)]
    have hmk : (strOfNums markB).toList = ([102, 76, 97, 67] : List UInt8) := by rw [ByteArray.toList_eq]; rfl
    by_cases hm : (strOfNums (b.take 4)).toList = ([102, 76, 97, 67] : List UInt8)
    · rw [if_pos hm, if_pos (by unfold magicB; rw [hm, hmk]; rfl)]
      exact un_go b hb hl (b.length + 1) [] 4 _ (by omega) (by omega) (by omega) (by simp)
    · rw [if_neg hm, if_neg]
      unfold magicB
      rw [hmk, beq_iff_eq]
      exact hm
theorem refUnpack_any (A : Option Addr) (c : Nat) (b : List Int) (w : World) (hr : ReadsInt w .u8 A b.length b) (hc : b.length ≤ c) (hb : BytesI b) (hl : b.length ≤ 1000000) :
    Calls Try.prog 41 #[.slice A b.length c] w fun e w' => ∃ v, e = .returned (.tuple #[v, .int .i64 (unS b).2.1, .int .i64 (unS b).2.2]) ∧ Kd.N k39 39 w' w.heap.size (fun _ => True) v (unS b).1 ∧ Below w.heap.size w w' := by
  have hv : Kd.V (Kd.int .u8) 5 w w.heap.size (fun k => k < w.heap.size) (.slice A b.length c) b := Kd.V_mk hc (Kd.C_F (Kd.heap_int _) (Kd.C_of_reads (d := 0) hr))
  refine (PMetaPacks.serinetteref18_Unpack.calls (2 * b.length + 2) (fun k => k < w.heap.size) A c b (unS b).1 (unS b).2.1 (unS b).2.2 w hv (refUnpack_f b hb hl)).mono ?_
  rintro e w' ⟨v, rfl, hn, hb2⟩
  exact ⟨v, rfl, Kd.N_mono hn (fun _ _ => trivial), hb2⟩
end Go.Proofs.Ytdpgojcljlfnbaa
end
section
/- The walk of MetaPacks. -/
set_option linter.unusedVariables false
set_option linter.unusedSimpArgs false
set_option maxRecDepth 100000
namespace Go.Proofs.Ytdpgojcljlfnbaa
open Go.RowKit
open Go.Proofs.YtdpgojcljlfnbaaW.PrintWords
open Go.Proofs.Ytdpgojcljlfnbaa.PMetaPacks (S39 k39 z39 rd_T39 at_T39)

theorem same_self (x : List Int) (hx : x.length ≤ 9223372036854775807) (n : Nat) : ∀ (i k : Nat), i + n = x.length → n < k → PMetaPacks.serinetteref01_Same.l0 k x x (i : Int) = some true := by
  induction n with
  | zero =>
    intro i k hi hk
    obtain ⟨k, rfl⟩ : ∃ q, k = q + 1 := ⟨k - 1, by omega⟩
    simp only [PMetaPacks.serinetteref01_Same.l0]
    rw [if_neg (by omega)]
  | succ n ih =>
    intro i k hi hk
    obtain ⟨k, rfl⟩ : ∃ q, k = q + 1 := ⟨k - 1, by omega⟩
    simp only [PMetaPacks.serinetteref01_Same.l0]
    rw [if_pos (by omega), if_pos (by omega), if_pos (by omega), if_pos trivial, wr64 _ (by omega) (by omega)]
    exact ih (i + 1) k (by omega) (by omega)
theorem metas_self (u : List S39) (S : Nat) (hu : u.length ≤ 9223372036854775807) (hx : ∀ m ∈ u, m.f1.length ≤ S) (hS : S ≤ 9223372036854775807) (n : Nat) : ∀ (i k : Nat), i + n = u.length → n + S + 1 < k → PMetaPacks.serinetteref18_Metas.l0 k u u (i : Int) = some true := by
  induction n with
  | zero =>
    intro i k hi hk
    obtain ⟨k, rfl⟩ : ∃ q, k = q + 1 := ⟨k - 1, by omega⟩
    simp only [PMetaPacks.serinetteref18_Metas.l0]
    rw [if_neg (by omega)]
  | succ n ih =>
    intro i k hi hk
    obtain ⟨k, rfl⟩ : ∃ q, k = q + 1 := ⟨k - 1, by omega⟩
    have hil : i < u.length := by omega
    have hml := hx _ (List.getElem_mem hil)
    simp only [PMetaPacks.serinetteref18_Metas.l0]
    rw [if_pos (by omega), if_pos (by omega), if_pos (by omega), if_pos trivial, rd39 u i hil]
    have hs : PMetaPacks.serinetteref01_Same.f k (u[i]).f1 (u[i]).f1 = some true := by
      unfold PMetaPacks.serinetteref01_Same.f
      rw [if_pos rfl]
      exact same_self _ (by omega) (u[i]).f1.length 0 k (by omega) (by omega)
    rw [hs, Option.bind_some, if_pos rfl, wr64 _ (by omega) (by omega)]
    exact ih (i + 1) k (by omega) (by omega)
theorem metasSelf_any (A B : Option Addr) (c d : Nat) (u : List S39) (w : World) (S : Nat) (hx : ∀ m ∈ u, m.f1.length ≤ S) (hS : S ≤ 9223372036854775807) (ha : Kd.C k39 w A u.length u) (hc : u.length ≤ c) (hb : Kd.C k39 w B u.length u) (hd : u.length ≤ d) :
    Calls Try.prog 42 #[.slice A u.length c, .slice B u.length d] w fun e w' => e = .returned (.bool true) ∧ Below w.heap.size w w' := by
  refine (PMetaPacks.serinetteref18_Metas.calls (u.length + S + 2) A c u B d u true w ha hc hb hd ?_).mono ?_
  · unfold PMetaPacks.serinetteref18_Metas.f
    rw [if_pos rfl]
    exact metas_self u S ha.2.1 hx hS u.length 0 _ (by omega) (by omega)
  · rintro e w' ⟨rfl, h⟩
    exact ⟨rfl, h.below⟩
theorem unGo_small (b : List Int) (f : Nat) : ∀ (out : List S39) (i : Nat), (∀ m ∈ out, m.f1.length ≤ b.length) → ∀ m ∈ (unGo b f out i).1, m.f1.length ≤ b.length := by
  induction f with
  | zero => intro out i _ m hm; cases hm
  | succ f ih =>
    intro out i ho
    have h2 : ∀ m ∈ out ++ [blockAt b i], m.f1.length ≤ b.length := by
      intro m hm
      rcases List.mem_append.1 hm with h | h
      · exact ho m h
      · rw [List.mem_singleton.1 h]
        unfold blockAt
        rw [List.length_take, List.length_drop]
        omega
    rw [unGo]
    split
    · intro m hm; cases hm
    · split
      · intro m hm; cases hm
      · split
        · intro m hm; cases hm
        · split
          · intro m hm; cases hm
          · split
            · exact h2
            · exact ih _ _ h2
theorem unS_small (b : List Int) : ∀ m ∈ (unS b).1, m.f1.length ≤ b.length := by
  unfold unS
  split
  · intro m hm; cases hm
  · split
    · exact unGo_small b _ _ _ (fun m hm => by cases hm)
    · intro m hm; cases hm

set_option maxHeartbeats 1000000 in
theorem Packs_walk (A B : Option Addr) (c d : Nat) (l : List S39) (b : List Int) (w : World) (hr : Kd.C k39 w A l.length l) (hc : l.length ≤ c) (hll : l.length ≤ 9223372036854775807) (hrb : ReadsInt w .u8 B b.length b) (hd : b.length ≤ d) (hby : BytesI b) :
    Calls Try.prog 9 #[.slice A l.length c, .slice B b.length d] w fun e w' => e = .returned (.bool true) ∧ Below w.heap.size w w' := by
  have HC := Lib.hid hr
  have HRB := Lib.hid hrb
  have HBY := Lib.hid hby
  have hbm := hrb.2.1
  clear hr hrb hby
  go_enter Try.func9, Try.ntmps9
  go_wp2_with fail
  refine (awake18_any w).mono ?_
  rintro e w1 ⟨rfl, hb1⟩
  go_wp2_with fail
  refine (Few_any A c l w1 (Kd.C_below HC.out hb1) hc (by omega)).mono ?_
  rintro e w2 ⟨rfl, hb2⟩
  have hw2 := bt hb1 hb2
  by_cases hf : fewM l = true
  · rw [hf]
    by_cases h600 : 600 < b.length
    · have h6 : 600 < (b.length : Int) := by omega
      clear hf
      go_wp2
      go_ret
      exact ⟨rfl, hw2⟩
    · have h6 : ¬ (600 < (b.length : Int)) := by omega
      obtain ⟨hl10, hl200⟩ := fewM_small l hf
      have HSM : Hid (SmallM l) := Lib.hid ⟨by omega, fun m hm => by have := hl200 m hm; omega⟩
      have HUS := Lib.hid (unS_small b)
      clear hf hl200
      have hee : (packE l == packE l) = true := beq_self_eq_true _
      have hnn : ((unS b).2.1 == (unS b).2.1) = true := beq_self_eq_true _
      have hgg : ((unS b).2.2 == (unS b).2.2) = true := beq_self_eq_true _
      go_wp2_with fail
      refine (Pack_any A c l w2 (Kd.C_below HC.out hw2) hc HSM.out).mono ?_
      rintro e w3 ⟨v3, rfl, hown3, hb3⟩
      have hw3 := bt hw2 hb3
      obtain ⟨A3, c3, rfl, hr3⟩ := own_reads hown3
      have HR3 := Lib.hid hr3
      clear hown3 hr3
      go_wp2_with fail
      refine (refPack_any A c l w3 (Kd.C_below HC.out hw3) hc HSM.out).mono ?_
      rintro e w4 ⟨v4, rfl, hown4, hb4⟩
      have hw4 := bt hw3 hb4
      obtain ⟨A4, c4, rfl, hr4⟩ := own_reads hown4
      have HR4 := Lib.hid hr4
      clear hown4 hr4
      go_wp2_with fail
      refine (Unpack_any B d b w4 (HRB.out.below hw4) hd HBY.out (by omega)).mono ?_
      rintro e w5 ⟨v5, rfl, hn5, hb5⟩
      have hw5 := bt hw4 hb5
      obtain ⟨A5, c5, rfl, hc5, hr5⟩ := Kd.N_reads hn5
      have HR5 := Lib.hid hr5
      clear hn5 hr5
      go_wp2_with fail
      refine (refUnpack_any B d b w5 (HRB.out.below hw5) hd HBY.out (by omega)).mono ?_
      rintro e w6 ⟨v6, rfl, hn6, hb6⟩
      have hw6 := bt hw5 hb6
      obtain ⟨A6, c6, rfl, hc6, hr6⟩ := Kd.N_reads hn6
      have HR6 := Lib.hid hr6
      clear hn6 hr6
      go_wp2_with fail
      refine (Same_any A3 _ c3 (packB l) A4 _ c4 (packB l) w6 (HR3.out.below (bt hb4 (bt hb5 hb6))) (HR4.out.below (bt hb5 hb6))).mono ?_
      rintro e w7 ⟨rfl, hb7⟩
      rw [decide_eq_true rfl]
      go_wp2_with fail
      refine (metasSelf_any A5 A6 c5 c6 (unS b).1 w7 b.length HUS.out (by omega) (Kd.C_below HR5.out (bt hb6 hb7)) hc5 (Kd.C_below HR6.out hb7) hc6).mono ?_
      rintro e w8 ⟨rfl, hb8⟩
      go_wp2
      go_ret
      exact ⟨rfl, bt hw6 (bt hb7 hb8)⟩
  · rw [Bool.not_eq_true] at hf
    rw [hf]
    clear hf
    go_wp2
    go_ret
    exact ⟨rfl, hw2⟩
end Go.Proofs.Ytdpgojcljlfnbaa
end
