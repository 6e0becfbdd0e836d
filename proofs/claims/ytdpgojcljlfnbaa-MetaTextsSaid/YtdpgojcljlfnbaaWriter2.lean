/- Contracts of bits.New, bytes.Clone, Writer.Bytes, Writer.Len, subframe.waste, subframe.all, subframe.typed; fewer than 2^40 bits. -/
import Derived.Test.YtdpgojcljlfnbaaWriter
set_option linter.unusedVariables false
set_option linter.unusedSimpArgs false
set_option maxRecDepth 100000
namespace Go.Proofs.Ytdpgojcljlfnbaa
open Go.RowKit
open Go.Proofs.YtdpgojcljlfnbaaW.PrintWords

theorem WStep.blk {w w' : World} {base g : Nat} {v v' : Value} {bs : List Bool} (hs : WStep w w' g v v') (hw : IsW w base g v bs) {i : Nat} {cs : Array Value} {t : TypeId} (hb : w.heap[i]? = some (.cells cs t (0, 0))) (h1 : t ≠ 134) (h2 : t ≠ 5) :
    w'.heap[i]? = some (.cells cs t (0, 0)) := by
  have hg : i ≠ g := blk_ne hb hw.blk h1
  have hv : some i ≠ v.ownBlock := own_ne hw.own hb (fun h => h2 h.symm)
  exact (hs.keep.2 i (blk_lt hb) hg hv).trans hb
theorem WStep.own_ {w w' : World} {base b g n sz : Nat} {e : TypeId} {v v' y : Value} {bs : List Bool} {ys : List Value} (hs : WStep w w' g v v') (hw : IsW w base g v bs) (hy : w.ownsRow b e sz y n ys) (h1 : e ≠ 134) (h2 : e ≠ 5) :
    w'.ownsRow b e sz y n ys := by
  refine own_move hy fun k hk => ?_
  obtain ⟨cells, hc⟩ := own_typed hy k hk
  rw [hs.blk hw hc h1 h2, hc]
theorem WStep.size {w w' : World} {g : Nat} {v v' : Value} (hs : WStep w w' g v v') : w.heap.size ≤ w'.heap.size := hs.keep.1

theorem New_any (w : World) : Calls Try.prog 43 #[] w fun e w' => e = .returned (.pointer (some ⟨w.heap.size, 0, none⟩)) ∧ IsW w' w.heap.size w.heap.size (.slice none 0 0) [] ∧ Below w.heap.size w w' := by
  go_enter Try.func43, Try.ntmps43
  go_wp2
  go_ret
  refine ⟨rfl, ⟨?_, own_nil _ _ _ _, Nat.le_refl _⟩, ba _ _⟩
  simpa using heap_alloc_new w _

theorem bytesClone_any (A : Option Addr) (n c : Nat) (xs : List Int) (w : World) (hr : ReadsInt w .u8 A n xs) (hn : n ≤ 140737488355328) :
    Calls Try.prog 57 #[.slice A n c] w fun e w' => ∃ v, e = .returned v ∧ OwnI w' w.heap.size 5 .u8 v xs ∧ Below w.heap.size w w' := by
  have HR := Lib.hid hr
  have qT : ∀ (w : World) (a : Option Addr) (n c n' c' : Nat), (binOp .eql 37 (.slice a n c) (.slice none n' c')).run Try.prog w = .ok (.bool a.isNone) w := fun w a n c n' c' => Lib.run_eql_slice_nil w _ _ a n c n' c' Try.underlying37
  have hl := hr.1
  rcases A with _ | ad
  · have h0 : n = 0 := by
      rcases Nat.eq_zero_or_pos n with h | h
      · exact h
      · obtain ⟨ad, h, _⟩ := hr.2.2 h; cases h
    subst h0
    obtain rfl : xs = [] := List.eq_nil_of_length_eq_zero hl
    clear hr hl
    go_enter Try.func57, Try.ntmps57
    go_wp2
    go_ret
    exact ⟨_, rfl, own_nil _ _ _ _, Below.refl _ _⟩
  clear hr
  go_enter Try.func57, Try.ntmps57
  go_wp2_with (at_builtin; refine print_append_row (w0 := w) w.heap.size rfl (.tmp 5) (.tmp 6) 37 5 .u8 1 rfl Try.underlying37 info_u8 (by decide) _ [] xs (some ad) n c rfl rfl (own_lit w _ 5 .u8 [] (Nat.le_refl _) (by simp)) (HR.out.below (below_alloc (Below.refl _ _) _)) (below_alloc (Below.refl _ _) _) (by simp) (by simp; omega) ?_; rintro v1 w1 hown hb hg hat)
  go_ret
  exact ⟨_, rfl, by unfold OwnI; simpa using hown, hb⟩

theorem Bytes_any (base g : Nat) (v : Value) (bs : List Bool) (w : World) (hW : IsW w base g v bs) (hbs : bs.length ≤ 1099511627776) :
    Calls Try.prog 46 #[.pointer (some ⟨g, 0, none⟩)] w fun e w' => ∃ v', e = .returned v' ∧ OwnI w' w.heap.size 5 .u8 v' (toBytes bs) ∧ Below w.heap.size w w' := by
  have c0 : w.cell? ⟨g, 0, none⟩ = some v := blk_cell hW.blk 0
  obtain ⟨A, c, rfl, hr⟩ := own_reads hW.own
  have HR := Lib.hid hr
  have hl := toBytes_length bs
  have HL := Lib.hid hl
  clear hr hW hl
  go_enter Try.func46, Try.ntmps46
  go_wp2_with (go_at_call 57; refine (bytesClone_any A _ c (toBytes bs) _ HR.out (by rw [HL.out]; omega)).mono ?_; rintro e w1 ⟨v', rfl, hown, hb⟩)
  go_ret
  exact ⟨_, rfl, hown, hb⟩

/-- The bits that tell how many are wasted. -/
def wasteBits (k : Nat) : List Bool := if k = 0 then [false] else true :: (List.replicate (k - 1) false ++ [true])
theorem digits_zero (k : Nat) : digits 0 k = List.replicate k false := by
  unfold digits
  apply List.ext_getElem?
  intro i
  by_cases h : i < k
  · rw [List.getElem?_map, List.getElem?_range h]; simp [List.getElem?_replicate, h]
  · rw [List.getElem?_eq_none (by simp; omega), List.getElem?_eq_none (by simp; omega)]

theorem waste_any (base g : Nat) (v : Value) (bs : List Bool) (many : Int) (w : World) (hW : IsW w base g v bs) (hbs : bs.length ≤ 1000000000000) (hbase : base ≤ w.heap.size) (h0 : 0 ≤ many) (h1 : many ≤ 64) :
    Calls Try.prog 75 #[.pointer (some ⟨g, 0, none⟩), .int .i64 many] w fun e w' => e = .returned (.tuple #[]) ∧ ∃ v', IsW w' base g v' (bs ++ wasteBits many.toNat) ∧ WStep w w' g v v' := by
  have HW := Lib.hid hW
  clear hW
  by_cases hm : many = 0
  · have HM := Lib.hid hm
    have hmb : (many == 0) = true := by rw [hm]; rfl
    clear hm
    go_enter Try.func75, Try.ntmps75
    go_wp2_with fail
    refine (Put_any g base v bs 0 1 w HW.out (by omega) (by omega) hbase).mono ?_
    rintro e w1 ⟨rfl, v1, hw1, hs1⟩
    go_wp2
    refine bodyPost_ret (v := .tuple #[]) (by simp [results, Try.results75, go_sem]) rfl ⟨rfl, v1, ?_, hs1⟩
    have e : wasteBits many.toNat = digits 0 (wid 1) := by rw [HM.out]; rfl
    rw [e]; exact hw1
  · have hmb : (many == 0) = false := by rw [beq_eq_false_iff_ne]; exact hm
    have HM := Lib.hid hm
    clear hm
    go_enter Try.func75, Try.ntmps75
    go_wp2_with fail
    refine (Put_any g base v bs 1 1 w HW.out (by omega) (by omega) hbase).mono ?_
    rintro e w1 ⟨rfl, v1, hw1, hs1⟩
    have HW1 := Lib.hid hw1; have HS1 := Lib.hid hs1
    clear hw1 hs1
    go_wp2_with fail
    refine (Put_any g base v1 _ 0 (many - 1) w1 HW1.out (by omega) (by rw [List.length_append, digits_length]; have := wid_le 1; omega) (Nat.le_trans hbase HS1.out.size)).mono ?_
    rintro e w2 ⟨rfl, v2, hw2, hs2⟩
    have HW2 := Lib.hid hw2; have HS2 := Lib.hid hs2
    clear hw2 hs2
    go_wp2_with fail
    refine (Put_any g base v2 _ 1 1 w2 HW2.out (by omega) (by rw [List.length_append, List.length_append, digits_length, digits_length]; have := wid_le 1; have := wid_le (many - 1); omega) (Nat.le_trans hbase (Nat.le_trans HS1.out.size HS2.out.size))).mono ?_
    rintro e w3 ⟨rfl, v3, hw3, hs3⟩
    go_wp2
    go_end0
    refine ⟨rfl, v3, ?_, HS1.out.trans (HS2.out.trans hs3)⟩
    have hmn : many ≠ 0 := HM.out
    have e : bs ++ wasteBits many.toNat = bs ++ digits 1 (wid 1) ++ digits 0 (wid (many - 1)) ++ digits 1 (wid 1) := by
      unfold wasteBits
      rw [if_neg (by omega), digits_zero, show wid (many - 1) = many.toNat - 1 from by unfold wid; omega, show wid 1 = 1 from rfl, show digits 1 1 = [true] from rfl]
      simp
    rw [e]; exact hw3

/-- A number as its lowest 64 bits. -/
def u64N (n : Int) : Nat := (n % 18446744073709551616).toNat
theorem u64N_lt (n : Int) : u64N n < 18446744073709551616 := by unfold u64N; omega
theorem u64N_wrap (n : Int) : IntKind.u64.wrap n = (u64N n : Int) := by rw [IntKind.wrap_u64]; unfold u64N; omega
/-- Numbers, each in so many bits. -/
def allBits (width : Nat) : List Int → List Bool
  | [] => []
  | x :: xs => digits (u64N x) width ++ allBits width xs
theorem allBits_append (width : Nat) (a b : List Int) : allBits width (a ++ b) = allBits width a ++ allBits width b := by
  induction a with
  | nil => rfl
  | cons x a ih => simp only [List.cons_append, allBits, ih, List.append_assoc]
theorem allBits_length (width : Nat) (a : List Int) : (allBits width a).length = width * a.length := by
  induction a with
  | nil => simp [allBits]
  | cons x a ih => simp only [allBits, List.length_append, digits_length, ih, List.length_cons, Nat.mul_add, Nat.mul_one]; omega

set_option maxHeartbeats 1000000 in
theorem all_any (base g : Nat) (v : Value) (bs : List Bool) (A : Option Addr) (n c : Nat) (xs : List Int) (width : Int) (w : World) (hW : IsW w base g v bs)
    (hr : ∀ W v', WStep w W g v v' → ReadsInt W .i64 A n xs) (hbs : bs.length ≤ 500000000000) (hn : n ≤ 1000000) (hbase : base ≤ w.heap.size) :
    Calls Try.prog 77 #[.pointer (some ⟨g, 0, none⟩), .slice A n c, .int .i64 width] w fun e w' => e = .returned (.tuple #[]) ∧ ∃ v', IsW w' base g v' (bs ++ allBits (wid width) xs) ∧ WStep w w' g v v' := by
  have HW := Lib.hid hW
  have HR := Lib.hid hr
  have HL := Lib.hid (hr w v (WStep.refl _ _ _)).1
  clear hW hr
  have hwid := wid_le width
  go_enter Try.func77, Try.ntmps77
  go_wp2
  go_loopw [10] (fun i wr => Hid (∃ (j : Nat) (v1 : Value), j ≤ n ∧ i = .int .i64 j ∧ IsW wr base g v1 (bs ++ allBits (wid width) (xs.take j)) ∧ WStep w wr g v v1)) (fun i _ => n - (intOf i).toNat)
  case atStart => exact Lib.hid ⟨0, v, Nat.zero_le _, rfl, by simpa [allBits] using HW.out, WStep.refl _ _ _⟩
  case round =>
    obtain ⟨j, v1, hj, rfl, hw1, hs1⟩ := hrel.out
    clear hrel
    have HW1 := Lib.hid hw1; have HS1 := Lib.hid hs1
    have hrj := HR.out wr v1 hs1
    clear hw1 hs1
    by_cases hlt : j < n
    · obtain ⟨ad, rfl, hc⟩ := rd_nat hrj hlt
      have hts := take_snoc_getD xs j (by rw [HL.out]; exact hlt)
      obtain ⟨x, hx⟩ : ∃ x, xs.getD j 0 = x := ⟨_, rfl⟩
      rw [hx] at hc hts
      have HTS := Lib.hid hts
      have hu := u64N_wrap x
      have hlen : (bs ++ allBits (wid width) (xs.take j)).length ≤ 1099511627776 := by
        rw [List.length_append, allBits_length, List.length_take, HL.out]
        have h1 : wid width * min j n ≤ 64 * 1000000 := Nat.mul_le_mul hwid (by omega)
        omega
      clear hts hx hrj
      go_wp2_with fail
      refine (Put_any g base v1 _ (u64N x) width wr HW1.out (u64N_lt _) hlen (Nat.le_trans hbase HS1.out.size)).mono ?_
      rintro e w2 ⟨rfl, v2, hw2, hs2⟩
      have HW2 := Lib.hid hw2; have HS2 := Lib.hid hs2
      clear hw2 hs2
      go_wp2
      go_roundw
      case rel =>
        refine Lib.hid ⟨j + 1, v2, by omega, by go_num, ?_, HS1.out.trans HS2.out⟩
        have h := HW2.out
        rw [HTS.out, allBits_append, ← List.append_assoc]
        simpa [allBits] using h
      case measure => simp [intOf]; omega
    · go_wp2
      go_end0
      refine ⟨rfl, v1, ?_, HS1.out⟩
      have h := HW1.out
      rwa [List.take_of_length_le (by rw [HL.out]; omega)] at h

def typedI (s : SubV) : Int := if s.kind = 2 then 8 + s.order else if s.kind = 3 then 31 + s.fs.length else s.kind
theorem typed_any (s : SubV) (w : World) (h1 : s.fs.length ≤ 1000000000) (h2 : -1000000000 ≤ s.order) (h3 : s.order ≤ 1000000000) : Calls Try.prog 74 #[subVal s] w fun e w' => e = .returned (.int .i64 (typedI s)) ∧ Below w.heap.size w w' := by
  by_cases k2 : s.kind = 2
  · have HV : Hid (typedI s = 8 + s.order) := Lib.hid (by unfold typedI; rw [if_pos k2])
    go_enter Try.func74, Try.ntmps74
    go_wp2
    go_ret
    exact ⟨ret_int HV.out.symm, ba _ _⟩
  · by_cases k3 : s.kind = 3
    · have HV : Hid (typedI s = 31 + s.fs.length) := Lib.hid (by unfold typedI; rw [if_neg k2, if_pos k3])
      go_enter Try.func74, Try.ntmps74
      go_wp2
      go_ret
      exact ⟨ret_int HV.out.symm, ba _ _⟩
    · have HV : Hid (typedI s = s.kind) := Lib.hid (by unfold typedI; rw [if_neg k2, if_neg k3])
      have k2b : (s.kind == 2) = false := by rw [beq_eq_false_iff_ne]; exact k2
      have k3b : (s.kind == 3) = false := by rw [beq_eq_false_iff_ne]; exact k3
      clear k2 k3
      go_enter Try.func74, Try.ntmps74
      go_wp2
      go_ret
      exact ⟨ret_int HV.out.symm, ba _ _⟩
end Go.Proofs.Ytdpgojcljlfnbaa
