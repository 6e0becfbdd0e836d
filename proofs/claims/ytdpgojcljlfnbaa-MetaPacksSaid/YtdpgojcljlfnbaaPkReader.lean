/- Contracts of bits.Reader: Open, Take, Fail; fewer than 2^40 bytes. -/
import Derived.Test.YtdpgojcljlfnbaaPkWriter
import Derived.Test.YtdpgojcljlfnbaaPkBitMath
import Derived.Laws.Bits64b
set_option linter.unusedVariables false
set_option linter.unusedSimpArgs false
set_option maxRecDepth 100000
namespace Go.Proofs.Ytdpgojcljlfnbaa
open Go.RowKit
open Go.Proofs.YtdpgojcljlfnbaaW.PrintWords

/-- A Reader at block g: v its bytes ys, k bits behind it, fl how it failed. -/
structure IsR (w : World) (base g : Nat) (v : Value) (ys : List Int) (k : Nat) (fl : Int) : Prop where
  blk : w.heap[g]? = some (.cells #[v, .int .i64 k, .int .i64 fl] 141 (0, 0))
  own : w.ownsRow base 5 1 v ys.length (nums .u8 ys)
  at_ : k ≤ 8 * ys.length
  by_ : ∀ y ∈ ys, 0 ≤ y ∧ y < 256
  len : ys.length ≤ 1099511627776
/-- What a step with a Reader leaves as it was: all but the Reader. -/
structure RStep (w w' : World) (g : Nat) : Prop where
  os : w'.os = w.os
  tape : w'.tape = w.tape
  output : w'.output = w.output
  keep : KeepBut w w' g none
theorem RStep.refl (w : World) (g : Nat) : RStep w w g := ⟨rfl, rfl, rfl, KeepBut.refl _ _ _⟩
theorem RStep.trans {w w1 w2 : World} {g : Nat} (h : RStep w w1 g) (k : RStep w1 w2 g) : RStep w w2 g := ⟨k.os.trans h.os, k.tape.trans h.tape, k.output.trans h.output, h.keep.trans k.keep (.inl rfl)⟩
theorem RStep.of_below {w w1 : World} (h : Below w.heap.size w w1) (g : Nat) : RStep w w1 g := ⟨h.os, h.tape, h.output, KeepBut.of_below h g _⟩
theorem RStep.size {w w' : World} {g : Nat} (hs : RStep w w' g) : w.heap.size ≤ w'.heap.size := hs.keep.1
theorem RStep.below {w0 w w1 : World} {g : Nat} (h : RStep w w1 g) (hb : Below w0.heap.size w0 w) (hg : w0.heap.size ≤ g) : Below w0.heap.size w0 w1 :=
  ⟨h.os.trans hb.os, h.tape.trans hb.tape, h.output.trans hb.output, Nat.le_trans hb.size h.keep.1, fun k hk => (h.keep.2 k (Nat.lt_of_lt_of_le hk hb.size) (by omega) (fun he => by cases he)).trans (hb.block k hk)⟩
theorem IsR.below {w w1 : World} {base g : Nat} {v : Value} {ys : List Int} {k : Nat} {fl : Int} (h : IsR w base g v ys k fl) (hb : Below w.heap.size w w1) : IsR w1 base g v ys k fl := ⟨blk_below h.blk hb, pw_own_below h.own hb, h.at_, h.by_, h.len⟩
theorem RStep.blk {w w' : World} {g i : Nat} {cs : Array Value} {t : TypeId} (hs : RStep w w' g) {o : Obj} (hw : w.heap[g]? = some o) (hb : w.heap[i]? = some (.cells cs t (0, 0))) (hne : i ≠ g) :
    w'.heap[i]? = some (.cells cs t (0, 0)) := (hs.keep.2 i (blk_lt hb) hne (fun he => by cases he)).trans hb
theorem RStep.own_ {w w' : World} {b g n sz : Nat} {e : TypeId} {y : Value} {cs : Array Value} {ys : List Value} (hs : RStep w w' g) (hw : w.heap[g]? = some (.cells cs 141 (0, 0))) (hy : w.ownsRow b e sz y n ys) (h1 : e ≠ 141) :
    w'.ownsRow b e sz y n ys := by
  refine own_move hy fun k hk => ?_
  obtain ⟨cells, hc⟩ := own_typed hy k hk
  have hne : k ≠ g := blk_ne hc hw h1
  exact hs.keep.2 k (blk_lt hc) hne (fun he => by cases he)

/-- What Take tells, where it is then, how it failed. -/
def takeFl (ys : List Int) (k : Nat) (fl : Int) (width : Int) : Int := if fl = 0 ∧ 8 * ys.length < k + wid width then 2 else fl
def takeV (ys : List Int) (k : Nat) (fl : Int) (width : Int) : Nat := if takeFl ys k fl width = 0 then numB (((bitsOf ys).drop k).take (wid width)) else 0
def takeK (ys : List Int) (k : Nat) (fl : Int) (width : Int) : Nat := if takeFl ys k fl width = 0 then k + wid width else k

theorem Open_any (A : Option Addr) (n c : Nat) (ys : List Int) (w : World) (hr : ReadsInt w .u8 A n ys) (hn : n ≤ 1099511627776) (hy : ∀ y ∈ ys, 0 ≤ y ∧ y < 256) :
    Calls Try.prog 45 #[.slice A n c] w fun e w' => ∃ g v, e = .returned (.pointer (some ⟨g, 0, none⟩)) ∧ w.heap.size ≤ g ∧ IsR w' w.heap.size g v ys 0 0 ∧ Below w.heap.size w w' := by
  have HR := Lib.hid hr; have HY := Lib.hid hy
  have HL := Lib.hid hr.1
  clear hr hy
  go_enter Try.func45, Try.ntmps45
  go_wp2_with fail
  refine (bytesClone_any A n c ys w HR.out (by omega)).mono ?_
  rintro e w1 ⟨v, rfl, hown, hb⟩
  have HO := Lib.hid hown
  obtain ⟨A1, c1, rfl, hrc⟩ := own_reads hown
  clear hown hrc
  go_wp2
  go_ret
  refine ⟨w1.heap.size, _, rfl, hb.size, ⟨?_, pw_own_below HO.out (ba _ _), Nat.zero_le _, HY.out, by rw [HL.out]; exact hn⟩, bt hb (ba _ _)⟩
  exact heap_alloc_new w1 _
theorem Fail_same (base g : Nat) (v : Value) (ys : List Int) (k : Nat) (fl : Int) (w : World) (hR : IsR w base g v ys k fl) :
    Calls Try.prog 80 #[.pointer (some ⟨g, 0, none⟩)] w fun e w' => e = .returned (.int .i64 fl) ∧ w' = w := by
  have c2 : w.cell? ⟨g, 2, none⟩ = some (.int .i64 fl) := blk_cell hR.blk 2
  clear hR
  go_enter Try.func80, Try.ntmps80
  go_wp2
  go_ret
  exact ⟨rfl, rfl⟩
theorem Left_any (base g : Nat) (v : Value) (ys : List Int) (k : Nat) (fl : Int) (w : World) (hR : IsR w base g v ys k fl) :
    Calls Try.prog 144 #[.pointer (some ⟨g, 0, none⟩)] w fun e w' => e = .returned (.int .i64 (8 * ys.length - k)) ∧ Below w.heap.size w w' := by
  obtain ⟨A, c, rfl, _⟩ := own_reads hR.own
  have c0 : w.cell? ⟨g, 0, none⟩ = some (.slice A ys.length c) := blk_cell hR.blk 0
  have c1 : w.cell? ⟨g, 1, none⟩ = some (.int .i64 k) := blk_cell hR.blk 1
  have h1 := hR.len
  have h2 := hR.at_
  clear hR
  go_enter Try.func144, Try.ntmps144
  go_wp2
  go_quiet (fail)
  go_wp2
  go_ret
  exact ⟨rfl, bd _ _⟩
theorem part_of2 (B s m : Nat) (hB : B < 256) (hm : m ≤ 8) : bits BinOp.and IntKind.u8 ((B : Int) / 2 ^ s) ((2 ^ m - 1) % 256) = ((B / 2 ^ s % 2 ^ m : Nat) : Int) := by
  have h := part_of B s m hm
  have e : ((B : Int) / 2 ^ s % 256) = (B : Int) / 2 ^ s := by
    have e2 : ((B : Int) / 2 ^ s) = ((B / 2 ^ s : Nat) : Int) := by simp
    have h2 : B / 2 ^ s ≤ B := Nat.div_le_self _ _
    rw [e2]
    generalize B / 2 ^ s = z at h2 ⊢
    omega
  rwa [e] at h
theorem fl79 {a : Act} {x0 x5 x6 : Value} (hs : a.tmps.size = 79) (hd : a.defers = []) (h0 : a.tmps.getD 0 undef = x0) (h5 : a.tmps.getD 5 undef = x5) (h6 : a.tmps.getD 6 undef = x6) : ∃ u : Nat → Value, a = { tmps := #[x0, u 1, u 2, u 3, u 4, x5, x6, u 7, u 8, u 9, u 10, u 11, u 12, u 13, u 14, u 15, u 16, u 17, u 18, u 19, u 20, u 21, u 22, u 23, u 24, u 25, u 26, u 27, u 28, u 29, u 30, u 31, u 32, u 33, u 34, u 35, u 36, u 37, u 38, u 39, u 40, u 41, u 42, u 43, u 44, u 45, u 46, u 47, u 48, u 49, u 50, u 51, u 52, u 53, u 54, u 55, u 56, u 57, u 58, u 59, u 60, u 61, u 62, u 63, u 64, u 65, u 66, u 67, u 68, u 69, u 70, u 71, u 72, u 73, u 74, u 75, u 76, u 77, u 78], defers := [] } := by
  subst h0
  subst h5
  subst h6
  refine ⟨fun i => a.tmps.getD i undef, ?_⟩
  obtain ⟨t, d⟩ := a
  cases hd
  exact congrArg (fun t => ({ tmps := t, defers := [] } : Act)) (frame_eq t 79 hs)
set_option maxHeartbeats 2000000 in
theorem Take_any (base g : Nat) (v : Value) (ys : List Int) (k : Nat) (fl width : Int) (w : World) (hR : IsR w base g v ys k fl) :
    Calls Try.prog 115 #[.pointer (some ⟨g, 0, none⟩), .int .i64 width] w fun e w' => e = .returned (.int .u64 (takeV ys k fl width)) ∧ IsR w' base g v ys (takeK ys k fl width) (takeFl ys k fl width) ∧ RStep w w' g := by
  obtain ⟨K, hK⟩ : ∃ K, wid width = K := ⟨_, rfl⟩
  have hK' : (max 0 (min width 64)).toNat = K := hK
  have hK64 : K ≤ 64 := by omega
  have hKi : max 0 (min width 64) = (K : Int) := by omega
  have HKI := Lib.hid hKi
  have hat := hR.at_
  have hlen := hR.len
  have c0 : w.cell? ⟨g, 0, none⟩ = some v := blk_cell hR.blk 0
  have c1 : w.cell? ⟨g, 1, none⟩ = some (.int .i64 k) := blk_cell hR.blk 1
  have c2 : w.cell? ⟨g, 2, none⟩ = some (.int .i64 fl) := blk_cell hR.blk 2
  have f2 := blk_frozen hR.blk 2
  have HR := Lib.hid hR
  have HFL : Hid (takeFl ys k fl width = if fl = 0 ∧ 8 * ys.length < k + K then 2 else fl) := Lib.hid (by unfold takeFl; rw [hK])
  have HV : Hid (takeV ys k fl width = if takeFl ys k fl width = 0 then numB (((bitsOf ys).drop k).take K) else 0) := Lib.hid (by unfold takeV; rw [hK])
  have HKK : Hid (takeK ys k fl width = if takeFl ys k fl width = 0 then k + K else k) := Lib.hid (by unfold takeK; rw [hK])
  clear hR hK hKi hK'
  go_enter Try.func115, Try.ntmps115
  go_wp2
  refine wp_scope_goto 0 (fun q a W => a.tmps.size = 79 ∧ a.defers = [] ∧ a.tmps.getD 0 undef = .pointer (some ⟨g, 0, none⟩) ∧ a.tmps.getD 5 undef = .int .i64 (q : Int) ∧ a.tmps.getD 6 undef = .int .u64 (numB (((bitsOf ys).drop k).take (K - q)) : Nat) ∧ q ≤ K ∧ fl = 0 ∧ k + K ≤ 8 * ys.length ∧ IsR W base g v ys (k + (K - q)) 0 ∧ RStep w W g) rfl ?pass ?first
  case first =>
    intro H hgo
    have HGO := Lib.hid hgo
    clear hgo
    by_cases hf : fl = 0
    · by_cases hs : 8 * ys.length < k + K
      · have hfl : takeFl ys k fl width = 2 := by rw [HFL.out, if_pos ⟨hf, hs⟩]
        have hv0 : takeV ys k fl width = 0 := by rw [HV.out, hfl]; rfl
        have hk0 : takeK ys k fl width = k := by rw [HKK.out, hfl]; rfl
        have H1 := Lib.hid hfl; have H2 := Lib.hid hv0; have H3 := Lib.hid hk0
        clear hfl hv0 hk0
        subst hf
        go_wp2_with (go_at_call 114; refine (held_any _ _).mono ?_; rintro e w' ⟨rfl, rfl⟩; rw [HKI.out])
        refine (Left_any base g v ys k 0 w HR.out).mono ?_
        rintro e w1 ⟨rfl, hb1⟩
        have HR1 := Lib.hid (HR.out.below hb1)
        clear c0 c1 c2 f2
        have c2 : w1.cell? ⟨g, 2, none⟩ = some (.int .i64 0) := blk_cell HR1.out.blk 2
        have f2 := blk_frozen HR1.out.blk 2
        go_wp2
        simp only [Exit.jump]
        go_ret
        refine ⟨by rw [H2.out]; rfl, ?_, ?_⟩
        · rw [H1.out, H3.out]
          exact ⟨by simpa using blk_set HR1.out.blk 2 (.int .i64 2), own_setCell HR1.out.own (own_ne HR1.out.own HR1.out.blk (by decide)) _, HR1.out.at_, HR1.out.by_, HR1.out.len⟩
        · exact ⟨hb1.os, hb1.tape, hb1.output, (KeepBut.of_below hb1 g none).set_ 2 _⟩
      · subst hf
        go_wp2_with (go_at_call 114; refine (held_any _ _).mono ?_; rintro e w' ⟨rfl, rfl⟩; rw [HKI.out])
        refine (Left_any base g v ys k 0 w HR.out).mono ?_
        rintro e w1 ⟨rfl, hb1⟩
        have HR1 := Lib.hid (HR.out.below hb1)
        clear c0 c1 c2 f2
        have c2 : w1.cell? ⟨g, 2, none⟩ = some (.int .i64 0) := blk_cell HR1.out.blk 2
        go_wp2
        go_step3
        go_step
        go_step
        exact HGO.out K _ _ ⟨rfl, rfl, rfl, rfl, by rw [Nat.sub_self]; rfl, Nat.le_refl _, by first | rfl | trivial, by omega, by rw [Nat.sub_self]; exact HR1.out, RStep.of_below hb1 g⟩
    · have hfl : takeFl ys k fl width = fl := by rw [HFL.out, if_neg (fun h => hf h.1)]
      have hv0 : takeV ys k fl width = 0 := by rw [HV.out, hfl, if_neg hf]
      have hk0 : takeK ys k fl width = k := by rw [HKK.out, hfl, if_neg hf]
      have H1 := Lib.hid hfl; have H2 := Lib.hid hv0; have H3 := Lib.hid hk0
      have hfb : (fl == 0) = false := by rw [beq_eq_false_iff_ne]; exact hf
      have hfb2 : (fl != 0) = true := by rw [bne_iff_ne]; exact hf
      clear hfl hv0 hk0 hf
      go_wp2_with (go_at_call 114; refine (held_any _ _).mono ?_; rintro e w' ⟨rfl, rfl⟩; rw [HKI.out])
      simp only [Exit.jump]
      go_ret
      exact ⟨by rw [H2.out]; rfl, by rw [H1.out, H3.out]; exact HR.out, RStep.refl _ _⟩
  case pass =>
    rintro q a W ⟨hs, hdf, ht0, ht5, ht6, hqK, hf0, hkK, hR1, hstep⟩ H hH
    have HH := Lib.hid hH
    have HR1 := Lib.hid hR1; have HSTEP := Lib.hid hstep
    subst hf0
    have hfl : takeFl ys k 0 width = 0 := by rw [HFL.out, if_neg (fun h => by omega)]
    have hv0 : takeV ys k 0 width = numB (((bitsOf ys).drop k).take K) := by rw [HV.out, hfl, if_pos rfl]
    have hk0 : takeK ys k 0 width = k + K := by rw [HKK.out, hfl, if_pos rfl]
    have H1 := Lib.hid hfl; have H2 := Lib.hid hv0; have H3 := Lib.hid hk0
    obtain ⟨t, ht⟩ : ∃ t, k + (K - q) = t := ⟨_, rfl⟩
    rw [ht] at HR1
    obtain ⟨x, hx⟩ : ∃ x, numB (((bitsOf ys).drop k).take (K - q)) = x := ⟨_, rfl⟩
    rw [hx] at ht6
    have HX := Lib.hid hx
    clear hH hR1 hstep c0 c1 c2 f2 hfl hv0 hk0 hx
    obtain ⟨u, ha⟩ := fl79 hs hdf ht0 ht5 ht6
    subst ha
    clear hs hdf ht0 ht5 ht6
    cases q with
    | zero =>
      go_wp2
      simp only [Exit.jump]
      go_ret
      refine ⟨ret_int (by rw [H2.out, ← HX.out, Nat.sub_zero]), ?_, HSTEP.out⟩
      rw [H1.out, H3.out]
      have e : k + K = t := by omega
      rw [e]; exact HR1.out
    | succ q =>
      have htl : t < 8 * ys.length := by omega
      obtain ⟨gb, cap, hv, hgb, hgl⟩ := HR1.out.own.form (by omega)
      subst hv
      have c0 : W.cell? ⟨g, 0, none⟩ = some (.slice (some ⟨gb, 0, none⟩) ys.length cap) := blk_cell HR1.out.blk 0
      have c1 : W.cell? ⟨g, 1, none⟩ = some (.int .i64 t) := blk_cell HR1.out.blk 1
      have f1 := blk_frozen HR1.out.blk 1
      obtain ⟨r, hr⟩ : ∃ r, t % 8 = r := ⟨_, rfl⟩
      have hr8 : r < 8 := by omega
      have hri : (t : Int) % 8 = (r : Int) := by omega
      have HRR := Lib.hid hr
      obtain ⟨iq, hiq⟩ : ∃ iq, t / 8 = iq := ⟨_, rfl⟩
      have hiqi : (t : Int) / 8 = (iq : Int) := by omega
      have hil : iq < ys.length := by omega
      have hil2 : (iq : Int) < (ys.length : Int) := by omega
      have HIQ := Lib.hid hiq
      clear hr hiq
      obtain ⟨m, hm⟩ : ∃ m, min (8 - r) (q + 1) = m := ⟨_, rfl⟩
      obtain ⟨l, hl⟩ : ∃ l, q + 1 - m = l := ⟨_, rfl⟩
      have hm1 : 1 ≤ m := by omega
      have hm2 : m ≤ 8 - r := by omega
      have hm3 : m ≤ q + 1 := by omega
      have hmi : min (8 - (r : Int)) ((q : Int) + 1) = (m : Int) := by omega
      have hli : (q : Int) + 1 - (m : Int) = (l : Int) := by omega
      have hql : q + 1 ≤ m + l := by omega
      have hql2 : m + l ≤ q + 1 := by omega
      have hm8 : m ≤ 8 := by omega
      clear hm hl
      obtain ⟨s, hs⟩ : ∃ s, 8 - r - m = s := ⟨_, rfl⟩
      have HS := Lib.hid hs
      have hsi : IntKind.i64.wrap (8 - (r : Int) - (m : Int)) = (s : Int) := by rw [IntWalk.i64_in _ (by omega)]; omega
      have hs8 : s ≤ 8 := by omega
      clear hs
      obtain ⟨dq, dfq⟩ := own_at HR1.out.own (iq : Int) (by omega) hil2
      obtain ⟨B, hB⟩ : ∃ B : Nat, rd ys (iq : Int) = (B : Int) := ⟨(rd ys (iq : Int)).toNat, by
        have := HR1.out.by_ _ (getD_mem ys iq hil)
        unfold rd
        rw [Int.toNat_natCast]
        omega⟩
      have HBB := Lib.hid hB
      have hB256 : B < 256 := by
        have := HR1.out.by_ _ (getD_mem ys iq hil)
        unfold rd at hB
        rw [Int.toNat_natCast] at hB
        omega
      rw [hB, Int.toNat_natCast] at dq
      rw [Int.toNat_natCast] at dfq
      have q1 : IntKind.i64.wrap (iq : Int) = (iq : Int) := IntWalk.i64_in _ (by omega)
      have x1 : (0 : Int) ≤ (s : Int) := by omega
      have x2 : (0 : Int) ≤ (m : Int) := by omega
      have x3 : (0 : Int) ≤ (iq : Int) := by omega
      obtain ⟨pt, hpt⟩ : ∃ pt, B / 2 ^ s % 2 ^ m = pt := ⟨_, rfl⟩
      have HPT := Lib.hid hpt
      have hpart : bits BinOp.and IntKind.u8 ((B : Int) / 2 ^ s) ((2 ^ m - 1) % 256) = (pt : Int) := by rw [← hpt]; exact part_of2 B s m hB256 hm8
      have hpm : pt < 2 ^ m := by rw [← hpt]; exact Nat.mod_lt _ (Nat.pow_pos (by decide))
      have hp256 : 2 ^ m ≤ 2 ^ 8 := Nat.pow_le_pow_right (by decide) hm8
      have hptb : pt < 256 := by omega
      have hxb : x * 2 ^ m < 18446744073709551616 := by
        have h1 : x < 2 ^ (K - (q + 1)) := by
          rw [← HX.out]
          have h2 := numB_lt (((bitsOf ys).drop k).take (K - (q + 1)))
          exact Nat.lt_of_lt_of_le h2 (Nat.pow_le_pow_right (by decide) (by rw [List.length_take]; omega))
        have h3 : x * 2 ^ m < 2 ^ (K - (q + 1)) * 2 ^ m := Nat.mul_lt_mul_of_pos_right h1 (Nat.pow_pos (by decide))
        rw [← Nat.pow_add] at h3
        have h4 : 2 ^ (K - (q + 1) + m) ≤ 2 ^ 64 := Nat.pow_le_pow_right (by decide) (by omega)
        omega
      have hor : bits BinOp.or IntKind.u64 (IntKind.u64.wrap ((x : Int) * 2 ^ m)) (pt : Int) = ((x * 2 ^ m + pt : Nat) : Int) := by
        have e2 : ((x : Int) * 2 ^ m) = ((x * 2 ^ m : Nat) : Int) := by simp
        rw [e2, IntKind.wrap_u64, show (((x * 2 ^ m : Nat) : Int) % 18446744073709551616) = ((x * 2 ^ m : Nat) : Int) from by omega, bits_or_u64_nat _ _ hxb (by omega), or_step _ _ _ hpm]
      obtain ⟨x', hx'⟩ : ∃ x', x * 2 ^ m + pt = x' := ⟨_, rfl⟩
      rw [hx'] at hor
      have HX2 := Lib.hid hx'
      have HHB := Lib.hid hpm
      clear hB hpt hp256 hx' hxb hpm
      go_wp2_with fail
      go_quiet (fail)
      obtain ⟨Wd, hWd⟩ : ∃ Wd, W.drewN nq = Wd := ⟨_, rfl⟩
      have hbd : Below W.heap.size W Wd := by rw [← hWd]; exact bd _ _
      have HRD := Lib.hid (HR1.out.below hbd)
      clear c0 c1 f1 dq dfq
      rw [hWd]
      clear hWd
      have c1 : Wd.cell? ⟨g, 1, none⟩ = some (.int .i64 t) := blk_cell HRD.out.blk 1
      have f1 := blk_frozen HRD.out.blk 1
      go_wp2_with fail
      go_step3
      have hmm := getD_mem ys iq hil
      have hbs : (bitsOf ys).length = 8 * ys.length := bitsOf_length ys
      have hpr := part_read ys t r m HR1.out.by_ HRR.out hm2 (by rw [HIQ.out]; exact hil)
      have hBn : (ys.getD (t / 8) 0).toNat = B := by
        have h := HBB.out
        unfold rd at h
        rw [Int.toNat_natCast] at h
        rw [HIQ.out, h, Int.toNat_natCast]
      rw [hBn, HS.out, HPT.out] at hpr
      have hns := num_step (bitsOf ys) k (K - (q + 1)) m (by rw [hbs]; omega)
      rw [ht, HX.out, ← hpr, HX2.out, show K - (q + 1) + m = K - l from by omega] at hns
      have e1 : k + (K - l) = t + m := by omega
      refine ⟨rfl, HH.out l _ _ (by omega) ⟨rfl, rfl, rfl, rfl, by rw [hns]; rfl, by omega, by first | rfl | trivial, hkK, ?_, ?_⟩⟩
      · rw [e1]
        refine ⟨by simpa using blk_set HRD.out.blk 1 (.int .i64 ((t : Int) + m)), own_setCell HRD.out.own (own_ne HRD.out.own HRD.out.blk (by decide)) _, by omega, HRD.out.by_, HRD.out.len⟩
      · exact ⟨hbd.os.trans HSTEP.out.os, hbd.tape.trans HSTEP.out.tape, hbd.output.trans HSTEP.out.output, (HSTEP.out.keep.trans (KeepBut.of_below hbd g none) (.inl rfl)).set_ 1 _⟩
end Go.Proofs.Ytdpgojcljlfnbaa
