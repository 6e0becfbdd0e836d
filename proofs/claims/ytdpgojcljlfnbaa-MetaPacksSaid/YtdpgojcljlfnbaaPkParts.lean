/- The contract of parts.Bits: how many bits a plan has; lists shorter than a million. -/
import Derived.Test.YtdpgojcljlfnbaaPkBase
import Derived.RegionCalls
import Derived.StillTailTactics
set_option linter.unusedVariables false
set_option linter.unusedSimpArgs false
set_option maxRecDepth 100000
namespace Go.Proofs.Ytdpgojcljlfnbaa
open Go.RowKit
open Go.Proofs.YtdpgojcljlfnbaaW.PrintWords

/-- Cells that stand one behind the other. -/
def ReadsC (w : World) (A : Option Addr) (cs : List Value) : Prop := cs ≠ [] → ∃ b off, A = some ⟨b, off, none⟩ ∧ b < w.heap.size ∧ ∀ j v, cs[j]? = some v → w.cell? ⟨b, off + j, none⟩ = some v
theorem ReadsC.below {w w1 : World} {A : Option Addr} {cs : List Value} (h : ReadsC w A cs) (hb : Below w.heap.size w w1) : ReadsC w1 A cs := by
  intro hn
  obtain ⟨b, off, e, hlt, hc⟩ := h hn
  exact ⟨b, off, e, Nat.lt_of_lt_of_le hlt hb.size, fun j v hv => (hb.cell (p := ⟨b, off + j, none⟩) hlt).trans (hc j v hv)⟩
/-- A part: its k, whether it is raw. -/
abbrev PartV := Int × Bool
def partCells (ps : List PartV) : List Value := ps.flatMap fun p => [.int .i64 p.1, .bool p.2]
theorem partCells_at (ps : List PartV) (j : Nat) (h : j < ps.length) : (partCells ps)[2 * j]? = some (.int .i64 (ps.getD j (0, false)).1) ∧ (partCells ps)[2 * j + 1]? = some (.bool (ps.getD j (0, false)).2) := by
  induction ps generalizing j with
  | nil => simp at h
  | cons p ps ih =>
    cases j with
    | zero => simp [partCells]
    | succ j =>
      have := ih j (by simpa using h)
      have e : partCells (p :: ps) = .int .i64 p.1 :: .bool p.2 :: partCells ps := by simp [partCells]
      rw [e, show 2 * (j + 1) = 2 * j + 1 + 1 from by omega]
      simpa using this
theorem parts_at {w : World} {A : Option Addr} {ps : List PartV} (h : ReadsC w A (partCells ps)) {j : Nat} (hj : j < ps.length) :
    ∃ b off, A = some ⟨b, off, none⟩ ∧ b < w.heap.size ∧ w.cell? ⟨b, off + j * 2, none⟩ = some (.int .i64 (ps.getD j (0, false)).1) ∧ w.cell? ⟨b, off + j * 2 + 1, none⟩ = some (.bool (ps.getD j (0, false)).2) := by
  obtain ⟨h1, h2⟩ := partCells_at ps j hj
  obtain ⟨b, off, e, hlt, hc⟩ := h (by intro h0; rw [h0] at h1; simp at h1)
  refine ⟨b, off, e, hlt, ?_, ?_⟩
  · have := hc _ _ h1; rwa [Nat.mul_comm] at this
  · have := hc _ _ h2; rwa [Nat.mul_comm, ← Nat.add_assoc] at this

theorem eachI_bd (xs : List Int) (k : Int) (raw : Bool) (h : xs.length ≤ 1000000) : -1 ≤ eachI xs k raw ∧ eachI xs k raw ≤ 17179869300 * xs.length + 5 := by
  unfold eachI
  cases raw
  · simp only [Bool.false_eq_true, if_false]
    unfold costB
    cases hf : xs.any fun x => !nearB x
    · have := sumI_bd k xs hf; simp; omega
    · simp; omega
  · simp only [if_true]
    split
    · omega
    · rename_i hc
      have hw : 0 ≤ widI xs := by omega
      have h1 : 0 ≤ k * xs.length := Int.mul_nonneg (by omega) (by omega)
      have h2 : k * xs.length ≤ 31 * xs.length := Int.mul_le_mul_of_nonneg_right (by omega) (by omega)
      have e : wrap64 (k * xs.length) = k * xs.length := by unfold wrap64; omega
      rw [e]
      unfold wrap64
      omega

/-- The bits of parts, one by one; -1: a part can't be. -/
def partsGo (most size : Int) : List Int → List PartV → List Int → Int → Int
  | [], _, _, sum => sum
  | _ :: _, [], _, sum => sum
  | m :: ms, p :: ps, xs, sum =>
    if eachI (xs.take m.toNat) p.1 p.2 < 0 ∨ (p.2 = false ∧ (p.1 < 0 ∨ most < p.1)) then -1
    else partsGo most size ms ps (xs.drop m.toNat) (sum + (size + eachI (xs.take m.toNat) p.1 p.2))
def partsI (xs : List Int) (order : Int) (wide : Bool) (o : Int) (ps : List PartV) : Int :=
  if (cutsI xs.length order o).length = 0 ∨ (cutsI xs.length order o).length ≠ ps.length then -1
  else partsGo (mostI wide) (sizeK wide) (cutsI xs.length order o) ps xs 6

/-- What all cuts have together. -/
def sumL : List Int → Int
  | [] => 0
  | x :: xs => x + sumL xs
theorem sumL_replicate (n : Nat) (s : Int) : sumL (List.replicate n s) = n * s := by
  induction n with
  | zero => simp [sumL]
  | succ n ih => simp only [List.replicate_succ, sumL, ih]; rw [Int.natCast_add, Int.add_mul]; simp; omega
theorem sumL_nonneg (l : List Int) (h : ∀ x ∈ l, 0 ≤ x) : 0 ≤ sumL l := by
  induction l with
  | nil => simp [sumL]
  | cons x l ih =>
    have h1 := h x (by simp)
    have h2 := ih (fun y hy => h y (by simp [hy]))
    simp only [sumL]; omega
theorem cuts_facts (many order o : Int) : (cutsI many order o ≠ [] → sumL (cutsI many order o) = many) ∧ (∀ m ∈ cutsI many order o, 0 ≤ m) ∧ (cutsI many order o).length ≤ 32768 := by
  unfold cutsI
  split
  · rename_i h
    unfold cutsOk at h
    simp only [Bool.and_eq_true, decide_eq_true_eq] at h
    obtain ⟨⟨⟨⟨⟨h0, h1⟩, h2⟩, h3⟩, h4⟩, h5⟩ := h
    obtain ⟨k, rfl⟩ : ∃ k : Nat, o = (k : Int) := ⟨o.toNat, by omega⟩
    have hk : k ≤ 15 := by omega
    have hp : 2 ^ k ≤ 32768 := Nat.pow_le_pow_right (n := 2) (by decide) hk
    have hp1 : 1 ≤ 2 ^ k := Nat.one_le_two_pow
    generalize shareI many order (k : Int) = s at h4 h5 ⊢
    simp only [Int.toNat_natCast, p2] at h4 ⊢
    refine ⟨fun _ => ?_, ?_, ?_⟩
    · simp only [sumL, sumL_replicate]
      have e : ((2 ^ k - 1 : Nat) : Int) = ((2 ^ k : Nat) : Int) - 1 := by omega
      rw [e, Int.sub_mul, Int.mul_comm, h4]; omega
    · intro m hm
      simp only [List.mem_cons, List.mem_replicate] at hm
      rcases hm with rfl | ⟨_, rfl⟩ <;> omega
    · simp; omega
  · simp

theorem run_cut_from {t e : TypeId} (ht : Try.prog.underlying t = some (.slice e)) {z : Value} {bytes : Nat} (hinfo : (Try.prog.info? e).map (fun i => (i.zero, i.size, i.bytes)) = some (some z, 1, bytes)) (A : Option Addr) (n c m : Nat) (hm : m ≤ n) (hc : n ≤ c) :
    ∃ A' : Option Addr, (∀ W : World, (Instr.slice t (.slice A n c) (some (.int .i64 (m : Int))) none none).run Try.prog W = .ok (.slice A' (n - m) (c - m)) W) ∧
      ∀ (w : World) (k : IntKind) (xs : List Int), ReadsInt w k A n xs → ReadsInt w k A' (n - m) (xs.drop m) := by
  obtain ⟨i, hi, hzz⟩ := Option.map_eq_some_iff.1 hinfo
  simp only [Prod.mk.injEq] at hzz
  obtain ⟨A', h1, h2⟩ := print_cut (P := Try.prog) t e .i64 ht hi hzz.2.1 A n c m hm
  exact ⟨A', h1, fun w k xs h => h2 w k xs hc h⟩
theorem run_cut_to {t e : TypeId} (ht : Try.prog.underlying t = some (.slice e)) {z : Value} {bytes : Nat} (hinfo : (Try.prog.info? e).map (fun i => (i.zero, i.size, i.bytes)) = some (some z, 1, bytes)) (A : Option Addr) (n c m : Nat) (hm : m ≤ n) (hc : n ≤ c) :
    ∀ W : World, (Instr.slice t (.slice A n c) none (some (.int .i64 (m : Int))) none).run Try.prog W = .ok (.slice A m c) W := by
  obtain ⟨i, hi, hzz⟩ := Option.map_eq_some_iff.1 hinfo
  exact cut_to t e .i64 ht hi A n c (m : Int) (by omega) (by omega) hc

theorem drop_getD {α : Type} (l : List α) (d : α) (j : Nat) (h : j < l.length) : l.drop j = l.getD j d :: l.drop (j + 1) := by
  rw [List.drop_eq_getElem_cons h]; simp [List.getD_eq_getElem?_getD, List.getElem?_eq_getElem h]
theorem getD_mem' {α : Type} (l : List α) (d : α) (j : Nat) (h : j < l.length) : l.getD j d ∈ l := by
  simp [List.getD_eq_getElem?_getD, List.getElem?_eq_getElem h]

theorem partsBits_any (A : Option Addr) (n c : Nat) (xs : List Int) (order : Int) (wide : Bool) (o : Int) (PA : Option Addr) (pc : Nat) (ps : List PartV) (w : World)
    (hr : ReadsInt w .i64 A n xs) (hn : n ≤ 1000000) (hnc : n ≤ c) (hord : order ≤ 1000000000) (hp : ReadsC w PA (partCells ps)) (hpc : ps.length ≤ 1000000000) :
    Calls Try.prog 54 #[.slice A n c, .int .i64 order, .agg #[.bool wide, .int .i64 o, .slice PA ps.length pc]] w fun e w' => e = .returned (.int .i64 (partsI xs order wide o ps)) ∧ Below w.heap.size w w' := by
  have hl := hr.1
  have HR := Lib.hid hr; have HP := Lib.hid hp
  clear hr hp
  subst hl
  obtain ⟨cs, hcs⟩ : ∃ cs, cutsI xs.length order o = cs := ⟨_, rfl⟩
  have hfacts := cuts_facts xs.length order o
  rw [hcs] at hfacts
  obtain ⟨hsum, hpos, hcl⟩ := hfacts
  have HCS := Lib.hid hcs; have HSUM := Lib.hid hsum; have HPOS := Lib.hid hpos
  clear hcs hsum hpos
  by_cases c1 : cs.length = 0
  · have HV : Hid (partsI xs order wide o ps = -1) := Lib.hid (by unfold partsI; rw [HCS.out, if_pos (.inl c1)])
    go_enter Try.func54, Try.ntmps54
    go_wp2_with (go_at_call 90; refine (Cuts_any _ _ _ _ (by omega) hord).mono ?_; rintro e w1 ⟨v, rfl, hown, hb⟩; rw [HCS.out] at hown; obtain ⟨A1, c1', rfl, _⟩ := own_reads hown)
    go_ret
    exact ⟨ret_int HV.out.symm, bt (ba _ _) hb⟩
  have c1b : ((cs.length : Int) == 0) = false := by rw [beq_eq_false_iff_ne]; omega
  by_cases c2 : cs.length = ps.length
  · have HV : Hid (partsI xs order wide o ps = partsGo (mostI wide) (sizeK wide) cs ps xs 6) := Lib.hid (by unfold partsI; rw [HCS.out, if_neg (by omega)])
    have hne : cs ≠ [] := by intro h; rw [h] at c1; simp at c1
    have hs := HSUM.out hne
    have HS := Lib.hid hs; clear hs hne
    obtain ⟨k, hk⟩ : ∃ k, cs.length = k := ⟨_, rfl⟩
    have HCK := Lib.hid hk
    rw [hk] at c1 c1b c2 hcl
    rw [← c2] at hpc ⊢
    have HPK := Lib.hid c2
    have c2b : ((k : Int) != (k : Int)) = false := by simp
    clear c2 hk
    obtain ⟨W0, hW0⟩ : ∃ W0, w.alloc (Obj.cells #[Value.bool wide, Value.int IntKind.i64 o, Value.slice PA k pc] 25) = W0 := ⟨_, rfl⟩
    have h00 : W0.cell? ⟨w.heap.size, 0, none⟩ = some (.bool wide) := by rw [← hW0]; simp [go_sem]
    have h01 : W0.cell? ⟨w.heap.size, 1, none⟩ = some (.int .i64 o) := by rw [← hW0]; simp [go_sem]
    have h02 : W0.cell? ⟨w.heap.size, 2, none⟩ = some (.slice PA k pc) := by rw [← hW0]; simp [go_sem]
    have hsz : W0.heap.size = w.heap.size + 1 := by rw [← hW0]; simp
    have hb0 : Below w.heap.size w W0 := by rw [← hW0]; exact ba _ _
    have HSZ := Lib.hid hsz
    have hlt0 : w.heap.size < W0.heap.size := by omega
    clear hsz
    go_enter Try.func54, Try.ntmps54
    go_wp2_with (first | (go_at_call 90; refine (Cuts_any _ _ _ _ (by omega) hord).mono ?_; rintro e w1 ⟨v, rfl, hown, hb⟩; rw [HCS.out] at hown; obtain ⟨A1, c1', rfl, hrc⟩ := own_reads hown; rw [HCK.out] at hrc ⊢; have HRC := Lib.hid hrc; clear hrc hown; obtain ⟨hc, hf⟩ := bcell hb) | (go_at_call 91; refine (top_any _ _).mono ?_; rintro e w' ⟨rfl, rfl⟩))
    obtain ⟨T, hT⟩ : ∃ T, partsGo (mostI wide) (sizeK wide) cs ps xs 6 = T := ⟨_, rfl⟩
    have HT := Lib.hid hT; clear hT
    have hmost : 14 ≤ mostI wide ∧ mostI wide ≤ 30 := by unfold mostI; split <;> omega
    have hsize : 4 ≤ sizeK wide ∧ sizeK wide ≤ 5 := by unfold sizeK; split <;> omega
    generalize mostI wide = most at *
    generalize sizeK wide = size at *
    go_loopw [0, 10, 40] (fun v0 s i wr => Hid (∃ (j : Nat) (A' : Option Addr) (n' c' : Nat) (xs' : List Int) (sum : Int), j ≤ k ∧ i = .int .i64 j ∧ v0 = .slice A' n' c' ∧ s = .int .i64 sum ∧ n' ≤ c' ∧ n' ≤ 1000000 ∧ Hid (ReadsInt w1 .i64 A' n' xs') ∧ Hid (partsGo most size (cs.drop j) (ps.drop j) xs' sum = T) ∧ Hid (sumL (cs.drop j) = n') ∧ 0 ≤ sum ∧ sum ≤ 6 + 17179869300 * (1000000 - n') + 10 * j ∧ Below w1.heap.size w1 wr)) (fun _ _ i _ => k - (intOf i).toNat)
    case atStart => exact Lib.hid ⟨0, A, _, c, xs, 6, by omega, rfl, rfl, rfl, hnc, hn, Lib.hid ((HR.out.below hb0).below hb), HT, Lib.hid HS.out, by omega, by omega, Below.refl _ _⟩
    case round =>
      obtain ⟨j, A', n', c', xs', sum, hj, rfl, rfl, rfl, hnc', hn', HR', HG, HSL, hsum0, hsum1, hbr⟩ := hrel.out
      clear hrel
      by_cases hlt : j < k
      · have hjc : j < cs.length := by rw [HCK.out]; exact hlt
        have hjp : j < ps.length := by rw [← HPK.out]; exact hlt
        have hdc := drop_getD cs 0 j hjc
        have hdp := drop_getD ps (0, false) j hjp
        obtain ⟨adc, hA1, hcq⟩ := rd_nat (HRC.out.below hbr) hlt
        subst hA1
        obtain ⟨pb, poff, hPA, hpb, hK, hRaw⟩ := parts_at (((HP.out.below hb0).below hb).below hbr) hjp
        subst hPA
        have hq0 := HPOS.out _ (getD_mem' cs 0 j hjc)
        have hsl := HSL.out
        rw [hdc] at hsl
        have hG := HG.out
        rw [hdc, hdp] at hG
        obtain ⟨q, hq⟩ : ∃ q, cs.getD j 0 = q := ⟨_, rfl⟩
        obtain ⟨⟨kk, raw⟩, hp⟩ : ∃ p, ps.getD j (0, false) = p := ⟨_, rfl⟩
        rw [hq] at hcq hq0 hsl hG
        rw [hp] at hK hRaw hG
        clear hq hp hdc hdp
        obtain ⟨m, rfl⟩ : ∃ m : Nat, q = (m : Int) := ⟨q.toNat, by omega⟩
        simp only [sumL] at hsl
        have hrest : 0 ≤ sumL (cs.drop (j + 1)) := sumL_nonneg _ (fun x hx => HPOS.out x (List.mem_of_mem_drop hx))
        have hmn : m ≤ n' := by omega
        have hto := run_cut_to Try.underlying27 info_int A' n' c' m hmn hnc'
        obtain ⟨A'', hfrom, hdrop⟩ := run_cut_from Try.underlying27 info_int A' n' c' m hmn hnc'
        have HD := Lib.hid (hdrop w1 .i64 xs' HR'.out)
        have HTK := Lib.hid (HR'.out.take_ m hmn)
        obtain ⟨n2, hn2⟩ : ∃ n2, n' - m = n2 := ⟨_, rfl⟩
        obtain ⟨c2, hc2⟩ : ∃ c2, c' - m = c2 := ⟨_, rfl⟩
        rw [hn2] at hfrom HD
        rw [hc2] at hfrom
        have hnc2 : n2 ≤ c2 := by omega
        have hn2' : n2 + m ≤ n' := by omega
        have hn2'' : n' ≤ n2 + m := by omega
        have HSL2 : Hid (sumL (cs.drop (j + 1)) = n2) := Lib.hid (by omega)
        simp only [partsGo, Int.toNat_natCast] at hG
        have hbd := eachI_bd (xs'.take m) kk raw (by rw [List.length_take, HR'.out.1]; omega)
        have htl : ((xs'.take m).length : Int) = m := by rw [List.length_take, HR'.out.1]; omega
        rw [htl] at hbd
        obtain ⟨E, hE⟩ : ∃ E, eachI (xs'.take m) kk raw = E := ⟨_, rfl⟩
        rw [hE] at hG hbd
        have HE := Lib.hid hE; have HG2 := Lib.hid hG
        have h02r : wr.cell? ⟨w.heap.size, 2, none⟩ = some (.slice (some ⟨pb, poff, none⟩) k pc) := by
          rw [(bcell hbr).1 _ _ (Nat.lt_of_lt_of_le hlt0 hb.size), hc _ _ hlt0]; exact h02
        obtain ⟨hbd1, hbd2⟩ := hbd
        clear hG hE hsl hrest hdrop hn2 hc2 htl hc hf HSL
        obtain ⟨W2, hW2⟩ : ∃ W2, wr.alloc (.cells #[.int .i64 kk, .bool raw] 160) = W2 := ⟨_, rfl⟩
        have hb2 : Below wr.heap.size wr W2 := by rw [← hW2]; exact ba _ _
        have hlt2 : wr.heap.size < W2.heap.size := by rw [← hW2]; simp
        have h20 : W2.cell? ⟨wr.heap.size, 0, none⟩ = some (.int .i64 kk) := by rw [← hW2]; simp [go_sem]
        have h21 : W2.cell? ⟨wr.heap.size, 1, none⟩ = some (.bool raw) := by rw [← hW2]; simp [go_sem]
        have h02q : W2.cell? ⟨w.heap.size, 2, none⟩ = some (.slice (some ⟨pb, poff, none⟩) k pc) := pw_cell_below hb2 h02r
        go_wp2
        go_still_tail 4, (by kernel_rfl)
        change wpList _ _ _ _ _ W2.drew
        have hb3 : Below W2.heap.size W2 W2.drew := bd1 W2
        have HTK3 := Lib.hid ((((HTK.out.below hbr).below hb2).below hb3))
        go_wp2_with fail
        refine (Each_any A' m c' (xs'.take m) kk raw _ HTK3.out (by omega)).mono ?_
        rintro e w5 ⟨rfl, hb5⟩
        rw [HE.out]
        have e20 : w5.cell? ⟨wr.heap.size, 0, none⟩ = some (.int .i64 kk) := pw_cell_below hb5 (pw_cell_below hb3 h20)
        have e21 : w5.cell? ⟨wr.heap.size, 1, none⟩ = some (.bool raw) := pw_cell_below hb5 (pw_cell_below hb3 h21)
        have hb6 : Below wr.heap.size wr w5 := bt hb2 (bt hb3 hb5)
        clear hb5 hb3 h20 h21 h02q hW2 hto HTK3
        by_cases k1 : E < 0
        · have HRES : Hid ((-1 : Int) = T) := Lib.hid (by rw [← HG2.out, if_pos (.inl k1)])
          go_wp2
          go_ret
          exact ⟨ret_int (by rw [HV.out, HT.out]; exact HRES.out), bt hb0 (bt hb (bt hbr hb6))⟩
        have k1b : decide (E < 0) = false := decide_eq_false k1
        cases raw
        · by_cases k2 : kk < 0
          · have HRES : Hid ((-1 : Int) = T) := Lib.hid (by rw [← HG2.out, if_pos (.inr ⟨rfl, .inl k2⟩)])
            go_wp2
            go_ret
            exact ⟨ret_int (by rw [HV.out, HT.out]; exact HRES.out), bt hb0 (bt hb (bt hbr hb6))⟩
          have k2b : decide (kk < 0) = false := decide_eq_false k2
          by_cases k3 : most < kk
          · have HRES : Hid ((-1 : Int) = T) := Lib.hid (by rw [← HG2.out, if_pos (.inr ⟨rfl, .inr k3⟩)])
            go_wp2
            go_ret
            exact ⟨ret_int (by rw [HV.out, HT.out]; exact HRES.out), bt hb0 (bt hb (bt hbr hb6))⟩
          have HG3 := HG2.out
          rw [if_neg (by rintro (h | ⟨_, h | h⟩) <;> omega)] at HG3
          have HG4 := Lib.hid HG3; clear HG3
          go_wp2
          go_roundw
          case rel => exact Lib.hid ⟨j + 1, A'', n2, c2, xs'.drop m, sum + (size + E), by omega, by go_num, rfl, rfl, hnc2, by omega, HD, HG4, HSL2, by omega, by omega, bt hbr hb6⟩
          case measure => simp [intOf]; omega
        · have HG3 := HG2.out
          rw [if_neg (by rintro (h | ⟨h, _⟩); omega; cases h)] at HG3
          have HG4 := Lib.hid HG3; clear HG3
          go_wp2
          go_roundw
          case rel => exact Lib.hid ⟨j + 1, A'', n2, c2, xs'.drop m, sum + (size + E), by omega, by go_num, rfl, rfl, hnc2, by omega, HD, HG4, HSL2, by omega, by omega, bt hbr hb6⟩
          case measure => simp [intOf]; omega
      · obtain rfl : j = k := by omega
        go_wp2
        go_ret
        refine ⟨ret_int ?_, bt hb0 (bt hb hbr)⟩
        rw [HV.out, HT.out, ← HG.out, List.drop_eq_nil_of_le (by rw [HCK.out]; exact Nat.le_refl _)]
        rfl
  · have HV : Hid (partsI xs order wide o ps = -1) := Lib.hid (by unfold partsI; rw [HCS.out, if_pos (.inr c2)])
    have c2b : ((cs.length : Int) != (ps.length : Int)) = true := by rw [bne_iff_ne]; omega
    clear c2
    go_enter Try.func54, Try.ntmps54
    go_wp2_with (go_at_call 90; refine (Cuts_any _ _ _ _ (by omega) hord).mono ?_; rintro e w1 ⟨v, rfl, hown, hb⟩; rw [HCS.out] at hown; obtain ⟨A1, c1', rfl, _⟩ := own_reads hown; obtain ⟨hc, hf⟩ := bcell hb)
    go_ret
    exact ⟨ret_int HV.out.symm, bt (ba _ _) hb⟩
end Go.Proofs.Ytdpgojcljlfnbaa
