/- Contracts of functions that the law reaches: Pack, SizesMath, SizesLaw, UnMath, Unpack, RefPack. -/
import Derived.Test.YtdpgojcljlfnbaaPkMark
import Derived.Lib.SlBytesConst
import Derived.Test.YtdpgojcljlfnbaaPkRead
import Derived.IntWalk
section
/- The contract of meta.Pack: for up to 2^20 blocks with bodies of up to 2^20 bytes. -/
set_option linter.unusedVariables false
set_option linter.unusedSimpArgs false
set_option maxRecDepth 100000
namespace Go.Proofs.Ytdpgojcljlfnbaa
open Go.RowKit
open Go.Proofs.YtdpgojcljlfnbaaW.PrintWords
open Go.Proofs.Ytdpgojcljlfnbaa.PMetaPacks (S39 k39 z39 rd_T39 at_T39)

def oddAll : List S39 → Int
  | [] => 0
  | m :: t => if oddM m.f0 m.f1.length = 0 then oddAll t else oddM m.f0 m.f1.length
def formOk : Nat → List S39 → Bool
  | _, [] => true
  | i, m :: t => ((m.f0 == 0) == (i == 0)) && formOk (i + 1) t
def headB (last : Bool) (m : S39) : List Int := [m.f0 + (if last then 128 else 0), (m.f1.length : Int) / 65536, (m.f1.length : Int) / 256 % 256, (m.f1.length : Int) % 256]
def bodyB : List S39 → List Int
  | [] => []
  | m :: t => headB t.isEmpty m ++ m.f1 ++ bodyB t
def markB : List Int := [102, 76, 97, 67]
def packE (l : List S39) : Int := if l.length = 0 then 2 else if oddAll l = 0 then (if formOk 0 l then 0 else 5) else oddAll l
def packB (l : List S39) : List Int := if packE l = 0 then markB ++ bodyB l else []
/-- Blocks of a size that memory holds. -/
def SmallM (l : List S39) : Prop := l.length ≤ 1048576 ∧ ∀ m ∈ l, m.f1.length ≤ 1048576

theorem ret_pair {v : Value} {a b : Int} (h : a = b) : Ending.returned (.tuple #[v, .int .i64 a]) = .returned (.tuple #[v, .int .i64 b]) := by rw [h]
theorem cell_new (w : World) (C : Array Value) (t : TypeId) (fr : Nat × Nat) (j : Nat) : (w.alloc (.cells C t fr)).cell? ⟨w.heap.size, j, none⟩ = C[j]? := by
  have h := heap_alloc_new w (.cells C t fr)
  simp only [World.cell?, h]
  rfl
theorem cell_old (w : World) (o : Obj) (g j : Nat) (hg : g < w.heap.size) : (w.alloc o).cell? ⟨g, j, none⟩ = w.cell? ⟨g, j, none⟩ := World.cell?_of_block (heap_alloc_old w o hg)
theorem reads_lit4 (w : World) (a b c d : Int) : ReadsInt (w.alloc (.cells #[.int .u8 a, .int .u8 b, .int .u8 c, .int .u8 d] 5)) .u8 (some ⟨w.heap.size, 0, none⟩) 4 [a, b, c, d] := by
  refine ⟨rfl, by omega, fun _ => ⟨_, rfl, fun j hj => ?_⟩⟩
  rw [Addr.add_lit, cell_new]
  match j, hj with
  | 0, _ => rfl
  | 1, _ => rfl
  | 2, _ => rfl
  | 3, _ => rfl
theorem oddAll_zero (l : List S39) (h : oddAll l = 0) : ∀ m ∈ l, 0 ≤ m.f0 ∧ m.f0 ≤ 126 ∧ m.f1.length ≤ 16777215 := by
  induction l with
  | nil => intro m hm; cases hm
  | cons a t ih =>
    intro m hm
    rw [oddAll] at h
    have ha : oddM a.f0 a.f1.length = 0 := by
      by_cases h2 : oddM a.f0 a.f1.length = 0
      · exact h2
      · rw [if_neg h2] at h; exact absurd h h2
    rw [if_pos ha] at h
    rcases List.mem_cons.1 hm with rfl | hm
    · unfold oddM at ha
      split at ha
      · omega
      · split at ha
        · omega
        · omega
    · exact ih h m hm
theorem or128 : ∀ x : Fin 128, Go.bits .or .u8 (x.val : Int) 128 = (x.val : Int) + 128 := by decide +kernel
theorem or_last (x : Int) (h0 : 0 ≤ x) (h1 : x ≤ 127) : Go.bits .or .u8 x 128 = x + 128 := by
  have := or128 ⟨x.toNat, by omega⟩
  rw [show ((⟨x.toNat, by omega⟩ : Fin 128).val : Int) = x from by simp; omega] at this
  exact this
theorem reads_lit4_at (w : World) (g : Nat) (a b c d : Int) (hg : g = w.heap.size) : ReadsInt (w.alloc (.cells #[.int .u8 a, .int .u8 b, .int .u8 c, .int .u8 d] 5)) .u8 (some ⟨g, 0, none⟩) 4 [a, b, c, d] := by
  subst hg
  exact reads_lit4 w a b c d
theorem rd39 (l : List S39) (i : Nat) (h : i < l.length) : rd_T39 l (i : Int) = l[i] := by
  simp [rd_T39, List.getD, List.getElem?_eq_getElem h]
theorem drop39 (l : List S39) (i : Nat) (h : i < l.length) : l.drop i = l[i] :: l.drop (i + 1) := List.drop_eq_getElem_cons h
theorem at39 {w : World} {A : Option Addr} {l : List S39} (h : Kd.C k39 w A l.length l) (i : Nat) (hi : i < l.length) : ∃ ad A1 c1, A = some ad ∧ w.cell? (ad.add (i * 2)) = some (.int .i64 (l[i]).f0) ∧ w.cell? ⟨(ad.add (i * 2)).block, (ad.add (i * 2)).off + 1, none⟩ = some (.slice A1 (l[i]).f1.length c1) ∧ (l[i]).f1.length ≤ c1 ∧ ReadsInt w .u8 A1 (l[i]).f1.length (l[i]).f1 := by
  obtain ⟨ad, A1, c1, h1, h2, h3, h4, h5⟩ := at_T39 h (i : Int) (by omega) (by omega)
  rw [rd39 l i hi] at h2 h3 h4 h5
  rw [Int.toNat_natCast] at h2 h3
  exact ⟨ad, A1, c1, h1, h2, h3, h4, Kd.reads_of_C h5⟩

set_option maxHeartbeats 1000000 in
theorem Pack_any (A : Option Addr) (c : Nat) (l : List S39) (w : World) (hr : Kd.C k39 w A l.length l) (hc : l.length ≤ c) (hs : SmallM l) :
    Calls Try.prog 38 #[.slice A l.length c] w fun e w' => ∃ v, e = .returned (.tuple #[v, .int .i64 (packE l)]) ∧ OwnI w' w.heap.size 5 .u8 v (packB l) ∧ Below w.heap.size w w' := by
  obtain ⟨hln, hlb⟩ := hs
  by_cases h0 : l.length = 0
  · have hE : packE l = 2 := by unfold packE; rw [if_pos h0]
    have hB : packB l = [] := by unfold packB; rw [hE]; rfl
    rw [hE, hB, h0]
    go_enter Try.func38, Try.ntmps38
    go_wp2
    go_ret2
    exact ⟨_, rfl, World.ownsRow_nil _ _ _ _, Below.refl _ _⟩
  have HC := Lib.hid hr
  have hlen : ((l.length : Int) == 0) = false := by rw [beq_eq_false_iff_ne]; omega
  have HLB := Lib.hid hlb
  have kc := fun (w : World) (C : Array Value) (n c : Nat) => Lib.run_convert_bytes_const (P := Try.prog) w 37 5 C n c Try.underlying37 Try.underlying5
  have n0 := Lib.hid h0
  clear hr hlb
  go_enter Try.func38, Try.ntmps38
  go_wp2
  go_loopg [17] l.length (fun gf v wx => ∃ i : Nat, v = .int .i64 (i : Int) ∧ gf + i = l.length ∧ Hid (oddAll l = oddAll (l.drop i)) ∧ Below w.heap.size w wx)
  case atStart => exact ⟨0, rfl, by omega, Lib.hid rfl, Below.refl _ _⟩
  case round =>
    obtain ⟨i, rfl, hgi, hod, hbw⟩ := hrel
    by_cases hi : i < l.length
    · obtain ⟨ad, A1, c1, rfl, hx0, hx1, hlc, hrb⟩ := at39 (HC.out) i hi
      have hod2 := hod.out
      rw [drop39 l i hi, oddAll] at hod2
      replace hx0 := pw_cell_below hbw hx0
      replace hx1 := pw_cell_below hbw hx1
      obtain ⟨m, hm⟩ : ∃ m, l[i] = m := ⟨_, rfl⟩
      rw [hm] at hx0 hx1 hod2
      have HOD := Lib.hid hod2
      clear hod hod2 hrb hlc hm
      go_wp2_with fail
      refine (oddM_any m.f0 A1 m.f1.length c1 _).mono ?_
      rintro e w1 ⟨rfl, hb1⟩
      have hbw1 : Below w.heap.size w w1 := (below_alloc hbw _).trans (Below.mono hb1 (by have := hbw.size; simp; omega))
      by_cases ho : oddM m.f0 m.f1.length = 0
      · have hob : (oddM m.f0 m.f1.length != 0) = false := by rw [ho]; rfl
        have HOD2 := Lib.hid (by have h := HOD.out; rw [if_pos ho] at h; exact h)
        clear HOD ho
        go_wp2
        go_roundg (l.length - (i + 1))
        case measure => omega
        case rel => exact ⟨i + 1, rfl, by omega, HOD2, hbw1⟩
      · have hob : (oddM m.f0 m.f1.length != 0) = true := by rw [bne_iff_ne]; exact ho
        have hE : packE l = oddM m.f0 m.f1.length := by
          have h := HOD.out
          rw [if_neg ho] at h
          unfold packE
          rw [if_neg h0, h, if_neg ho]
        have hB : packB l = [] := by unfold packB; rw [hE, if_neg ho]
        have HE := Lib.hid hE
        have HB := Lib.hid hB
        clear HOD ho hE hB
        generalize oddM m.f0 m.f1.length = oe at *
        go_wp2
        go_ret2
        exact ⟨_, ret_pair HE.out.symm, by rw [HB.out]; exact World.ownsRow_nil _ _ _ _, hbw1⟩
    · have hodz : oddAll l = 0 := by
        rw [hod.out, List.drop_of_length_le (by omega)]; rfl
      have HPE : Hid (packE l = if formOk 0 l then 0 else 5) := Lib.hid (by unfold packE; rw [if_neg n0.out, if_pos hodz])
      have hmk : Marked (wr.alloc (.cells #[.int .u8 102, .int .u8 76, .int .u8 97, .int .u8 67] 5 (4, 5))) w.heap.size 5 .u8 (.slice (some ⟨wr.heap.size, 0, none⟩) 4 4) markB := by
        refine .inr ⟨wr.heap.size, rfl, hbw.size, by simp, ?_⟩
        intro j u hj
        rw [cell_new, ← hj]
        simp [nums, markB]
      have HMK := Lib.hid hmk
      clear hod hmk
      go_wp2
      have hbq := below_alloc hbw (.cells #[.int .u8 102, .int .u8 76, .int .u8 97, .int .u8 67] 5 (4, 5))
      have HOK := Lib.hid (oddAll_zero l hodz)
      obtain ⟨W0, hW0⟩ : ∃ W0, wr.alloc (.cells #[.int .u8 102, .int .u8 76, .int .u8 97, .int .u8 67] 5 (4, 5)) = W0 := ⟨_, rfl⟩
      rw [hW0] at hbq HMK
      have HW0 := Lib.hid hW0
      go_loopg [7, 31] l.length (fun gf v7 v wx => ∃ (i : Nat) (out : List Int), v = .int .i64 (i : Int) ∧ gf + i = l.length ∧ Marked wx w.heap.size 5 .u8 v7 out ∧ (0 < i → OwnI wx w.heap.size 5 .u8 v7 out) ∧ Hid (out ++ bodyB (l.drop i) = markB ++ bodyB l) ∧ Hid (formOk 0 l = formOk i (l.drop i)) ∧ out.length ≤ 4 + i * 1048580 ∧ Below w.heap.size w wx)
      case atStart => exact ⟨0, markB, rfl, by omega, HW0.out ▸ HMK.out, fun h => absurd h (by omega), Lib.hid rfl, Lib.hid rfl, by simp [markB], HW0.out ▸ hbq⟩
      case round =>
        clear HMK hbq HW0 hW0 hi hgi hbw
        obtain ⟨i, out, rfl, hgi, hmk, hown0, hout, hform, hol, hbw⟩ := hrel
        by_cases hi : i < l.length
        · obtain ⟨ad, A1, c1, rfl, hx0, hx1, hlc, hrb⟩ := at39 (HC.out) i hi
          have hmem : l[i] ∈ l := List.getElem_mem hi
          have hok := HOK.out _ hmem
          have hlb := HLB.out _ hmem
          have hout2 := hout.out
          have hform2 := hform.out
          rw [drop39 l i hi] at hout2 hform2
          rw [bodyB] at hout2
          rw [formOk] at hform2
          have hemp : (l.drop (i + 1)).isEmpty = decide (i + 1 = l.length) := by
            rw [Bool.eq_iff_iff, List.isEmpty_iff, decide_eq_true_iff, List.drop_eq_nil_iff]
            omega
          rw [hemp] at hout2
          replace hx0 := pw_cell_below hbw hx0
          replace hx1 := pw_cell_below hbw hx1
          obtain ⟨m, hm⟩ : ∃ m, l[i] = m := ⟨_, rfl⟩
          rw [hm] at hx0 hx1 hok hlb hout2 hform2 hlc hrb
          obtain ⟨h00, h126, hl24⟩ := hok
          have HOUT := Lib.hid hout2
          have HFORM := Lib.hid hform2
          have HRB := Lib.hid hrb
          have HMK := Lib.hid hmk
          clear hown0
          clear hout hform hout2 hform2 hrb hmem hm hemp hmk
          by_cases hf : ((m.f0 == 0) == (i == 0)) = true
          · have hfb : (!(m.f0 == 0) == ((i : Int) == 0)) = false := by
              have e : ((i : Int) == 0) = (i == 0) := by rw [Bool.eq_iff_iff]; simp
              rw [e]
              revert hf
              cases (m.f0 == 0) <;> cases (i == 0) <;> simp
            have h8 := or_last m.f0 h00 (by omega)
            have HF2 : Hid (formOk 0 l = formOk (i + 1) (l.drop (i + 1))) := Lib.hid (by rw [HFORM.out, hf, Bool.true_and])
            obtain ⟨Ao, co, rfl⟩ := HMK.out.slice
            clear hf HFORM
            have HM2 := Lib.hid (fun (o1 o2 : Obj) => HMK.out.below (below_alloc (below_alloc (Below.refl wr.heap.size wr) o1) o2))
            have HBW2 := Lib.hid (fun (o1 o2 : Obj) => below_alloc (below_alloc hbw o1) o2)
            have k0 := Lib.hid (fun (C : Array Value) (t2 : TypeId) => ((cell_old (wr.alloc (.cells #[.int .i64 m.f0, .slice A1 m.f1.length c1] 39)) (.cells C t2) wr.heap.size 1 (by simp)).trans (cell_new wr #[.int .i64 m.f0, .slice A1 m.f1.length c1] 39 (0, 0) 1)))
            by_cases hla : i + 1 = l.length
            · have hlb2 : ((i : Int) == (l.length : Int) - 1) = true := by rw [beq_iff_eq]; omega
              go_wp2_with (at_builtin; first | (refine append_marked (w0 := w) w.heap.size rfl (.tmp 55) (.tmp 65) 37 5 .u8 1 rfl Try.underlying37 info_u8 (by decide) (.slice Ao out.length co) out [m.f0 + 128, (m.f1.length : Int) / 65536, (m.f1.length : Int) / 256 % 256, (m.f1.length : Int) % 256] _ 4 4 rfl rfl (by decide) (HM2.out _ _) (reads_lit4_at _ _ _ _ _ _ (by simp)) (HBW2.out _ _) (HBW2.out _ _).size (by omega) ?_; intro v1 w1 hown1 hb1 hg1; have k1 : w1.cell? ⟨wr.heap.size, 1, none⟩ = some (.slice A1 m.f1.length c1) := (World.cell?_of_block (a := ⟨wr.heap.size, 1, none⟩) (hg1.block wr.heap.size (by simp <;> omega) (fun he => by have := HMK.out.lt _ he.symm; omega))).trans (k0.out _ _); have HO1 := Lib.hid hown1; clear hown1 hg1) | (refine print_append_row (w0 := w) (W := w1) w.heap.size rfl (.tmp 67) (.tmp 69) 37 5 .u8 1 rfl Try.underlying37 info_u8 (by decide) v1 (out ++ [m.f0 + 128, (m.f1.length : Int) / 65536, (m.f1.length : Int) / 256 % 256, (m.f1.length : Int) % 256]) m.f1 A1 m.f1.length c1 rfl rfl HO1.out (HRB.out.below hb1) hb1 hb1.size (by simp only [List.length_append, List.length_cons, List.length_nil]; omega) ?_; intro v2 w2 hown2 hb2 hg2 hat2))
              go_roundg (l.length - (i + 1))
              case measure => omega
              case rel =>
                refine ⟨i + 1, _, rfl, by omega, .inl hown2, fun _ => hown2, Lib.hid ?_, HF2, ?_, hb2⟩
                · rw [← HOUT.out, decide_eq_true hla]
                  simp [headB]
                · simp only [List.length_append, List.length_cons, List.length_nil]; omega
            · have hlb2 : ((i : Int) == (l.length : Int) - 1) = false := by rw [beq_eq_false_iff_ne]; omega
              go_wp2_with (at_builtin; first | (refine append_marked (w0 := w) w.heap.size rfl (.tmp 55) (.tmp 65) 37 5 .u8 1 rfl Try.underlying37 info_u8 (by decide) (.slice Ao out.length co) out [m.f0, (m.f1.length : Int) / 65536, (m.f1.length : Int) / 256 % 256, (m.f1.length : Int) % 256] _ 4 4 rfl rfl (by decide) (HM2.out _ _) (reads_lit4_at _ _ _ _ _ _ (by simp)) (HBW2.out _ _) (HBW2.out _ _).size (by omega) ?_; intro v1 w1 hown1 hb1 hg1; have k1 : w1.cell? ⟨wr.heap.size, 1, none⟩ = some (.slice A1 m.f1.length c1) := (World.cell?_of_block (a := ⟨wr.heap.size, 1, none⟩) (hg1.block wr.heap.size (by simp <;> omega) (fun he => by have := HMK.out.lt _ he.symm; omega))).trans (k0.out _ _); have HO1 := Lib.hid hown1; clear hown1 hg1) | (refine print_append_row (w0 := w) (W := w1) w.heap.size rfl (.tmp 67) (.tmp 69) 37 5 .u8 1 rfl Try.underlying37 info_u8 (by decide) v1 (out ++ [m.f0, (m.f1.length : Int) / 65536, (m.f1.length : Int) / 256 % 256, (m.f1.length : Int) % 256]) m.f1 A1 m.f1.length c1 rfl rfl HO1.out (HRB.out.below hb1) hb1 hb1.size (by simp only [List.length_append, List.length_cons, List.length_nil]; omega) ?_; intro v2 w2 hown2 hb2 hg2 hat2))
              go_roundg (l.length - (i + 1))
              case measure => omega
              case rel =>
                refine ⟨i + 1, _, rfl, by omega, .inl hown2, fun _ => hown2, Lib.hid ?_, HF2, ?_, hb2⟩
                · rw [← HOUT.out, decide_eq_false hla]
                  simp [headB]
                · simp only [List.length_append, List.length_cons, List.length_nil]; omega
          · have hfb : (!(m.f0 == 0) == ((i : Int) == 0)) = true := by
              have e : ((i : Int) == 0) = (i == 0) := by rw [Bool.eq_iff_iff]; simp
              rw [e]
              revert hf
              cases (m.f0 == 0) <;> cases (i == 0) <;> simp
            have hE : packE l = 5 := by
              rw [HPE.out, HFORM.out]
              rw [if_neg]
              rw [Bool.and_eq_true]
              exact fun h => hf h.1
            have HE := Lib.hid hE
            have HB := Lib.hid (show packB l = [] by unfold packB; rw [hE]; rfl)
            clear hf HFORM hE
            go_wp2
            go_ret2
            exact ⟨_, ret_pair HE.out.symm, by rw [HB.out]; exact World.ownsRow_nil _ _ _ _, below_alloc hbw _⟩
        · have hd : l.drop i = [] := List.drop_of_length_le (by omega)
          have hE : packE l = 0 := by
            rw [HPE.out, hform.out, hd]; rfl
          have hB : packB l = out := by
            unfold packB
            rw [if_pos hE, ← hout.out, hd, bodyB, List.append_nil]
          have HE := Lib.hid hE
          have HB := Lib.hid hB
          clear hE hB hd
          go_wp2
          go_ret2
          refine ⟨_, ret_pair HE.out.symm, ?_, hbw⟩
          rw [HB.out]
          exact hown0 (by have := n0.out; omega)
end Go.Proofs.Ytdpgojcljlfnbaa
end
section
/- A block more, behind: what changes in packed blocks. -/
set_option linter.unusedVariables false
set_option linter.unusedSimpArgs false
set_option maxRecDepth 100000
namespace Go.Proofs.Ytdpgojcljlfnbaa
open Go.RowKit
open Go.Proofs.YtdpgojcljlfnbaaW.PrintWords
open Go.Proofs.Ytdpgojcljlfnbaa.PMetaPacks (S39 k39 z39 rd_T39 at_T39)

def flatB (l : List S39) : List Int := l.flatMap fun m => headB false m ++ m.f1
theorem body_snoc (p : List S39) (m : S39) : bodyB (p ++ [m]) = flatB p ++ (headB true m ++ m.f1) := by
  induction p with
  | nil => simp [bodyB, flatB]
  | cons a t ih =>
    have h1 : (t ++ [m]).isEmpty = false := by cases t <;> rfl
    rw [List.cons_append, bodyB, h1, ih]
    simp [flatB]
theorem flat_snoc (p : List S39) (m : S39) : flatB (p ++ [m]) = flatB p ++ (headB false m ++ m.f1) := by simp [flatB]
theorem head_length (b : Bool) (m : S39) : (headB b m).length = 4 := rfl
def sizeM (l : List S39) : Nat := 4 + (l.map fun m => 4 + m.f1.length).sum
theorem sizeM_snoc (p : List S39) (m : S39) : sizeM (p ++ [m]) = sizeM p + 4 + m.f1.length := by
  unfold sizeM
  rw [List.map_append, List.sum_append]
  simp
  omega
theorem flat_length (l : List S39) : 4 + (flatB l).length = sizeM l := by
  unfold sizeM flatB
  induction l with
  | nil => rfl
  | cons a t ih =>
    simp only [List.flatMap_cons, List.length_append, head_length, List.map_cons, List.sum_cons] at *
    omega
theorem oddAll_append (l t : List S39) (h : oddAll l = 0) : oddAll (l ++ t) = oddAll t := by
  induction l with
  | nil => rfl
  | cons a r ih =>
    rw [oddAll] at h
    rw [List.cons_append, oddAll]
    by_cases h2 : oddM a.f0 a.f1.length = 0
    · rw [if_pos h2] at h ⊢; exact ih h
    · rw [if_neg h2] at h; exact absurd h h2
theorem formOk_append (l t : List S39) (i : Nat) : formOk i (l ++ t) = (formOk i l && formOk (i + l.length) t) := by
  induction l generalizing i with
  | nil => simp [formOk]
  | cons a r ih =>
    rw [List.cons_append, formOk, formOk, ih, Bool.and_assoc, List.length_cons, show i + 1 + r.length = i + (r.length + 1) by omega]
theorem packE_zero (l : List S39) (h : packE l = 0) : 0 < l.length ∧ oddAll l = 0 ∧ formOk 0 l = true := by
  unfold packE at h
  split at h
  · omega
  · split at h
    · split at h
      · exact ⟨by omega, by assumption, by assumption⟩
      · omega
    · exact absurd h (by assumption)
def moreM : S39 := ⟨2, [7]⟩
theorem packE_more (l : List S39) (h : packE l = 0) : packE (l ++ [moreM]) = 0 := by
  obtain ⟨h1, h2, h3⟩ := packE_zero l h
  unfold packE
  rw [if_neg (by simp), oddAll_append l _ h2, if_pos (show oddAll [moreM] = 0 by rfl), formOk_append, h3, Bool.true_and, Nat.zero_add, if_pos]
  have h5 : (l.length == 0) = false := by rw [beq_eq_false_iff_ne]; omega
  show ((((2 : Int) == 0) == (l.length == 0)) && true) = true
  rw [h5]
  rfl
/-- Packed, and packed with a block more: one byte differs. -/
theorem pack_two (l : List S39) (h : packE l = 0) : ∃ (P R T : List Int) (x : Int) (m : Nat), 0 ≤ x ∧ x ≤ 126 ∧ packB l = P ++ (x + 128) :: R ∧ packB (l ++ [moreM]) = P ++ x :: (R ++ (130 :: T)) ∧ T.length = 4 ∧
    P.length = sizeM (l.take (l.length - 1)) ∧ (packB l).length = sizeM l := by
  obtain ⟨h1, h2, h3⟩ := packE_zero l h
  have h4 := packE_more l h
  obtain ⟨p, m, rfl⟩ : ∃ p m, l = p ++ [m] := ⟨l.dropLast, l.getLast (by intro e; rw [e] at h1; exact absurd h1 (by decide)), (List.dropLast_concat_getLast _).symm⟩
  have hm := oddAll_zero _ h2 m (by simp)
  have e1 : packB (p ++ [m]) = markB ++ bodyB (p ++ [m]) := by unfold packB; rw [if_pos h]
  have e2 : packB (p ++ [m] ++ [moreM]) = markB ++ bodyB (p ++ [m] ++ [moreM]) := by unfold packB; rw [if_pos h4]
  refine ⟨markB ++ flatB p, [(m.f1.length : Int) / 65536, (m.f1.length : Int) / 256 % 256, (m.f1.length : Int) % 256] ++ m.f1, [0, 0, 1, 7], m.f0, 0, hm.1, hm.2.1, ?_, ?_, rfl, ?_, ?_⟩
  · rw [e1, body_snoc]
    simp [headB]
  · rw [e2, body_snoc, flat_snoc]
    simp [headB, moreM]
  · have ht : (p ++ [m]).take ((p ++ [m]).length - 1) = p := by simp
    rw [ht, ← flat_length, List.length_append]
    rfl
  · rw [e1, body_snoc, sizeM_snoc, ← flat_length]
    simp only [List.length_append, head_length, show markB.length = 4 from rfl]
    omega
theorem differ_at (P R T : List Int) (x : Int) (j : Nat) (hj : j < (P ++ (x + 128) :: R).length) :
    ((P ++ (x + 128) :: R).getD j 0 = (P ++ x :: (R ++ T)).getD j 0) ↔ j ≠ P.length := by
  rw [List.getD_eq_getElem?_getD, List.getD_eq_getElem?_getD]
  by_cases h1 : j < P.length
  · rw [List.getElem?_append_left h1, List.getElem?_append_left h1]
    exact ⟨fun _ => by omega, fun _ => rfl⟩
  · rw [List.getElem?_append_right (by omega), List.getElem?_append_right (by omega)]
    obtain ⟨d, hd⟩ : ∃ d, j - P.length = d := ⟨_, rfl⟩
    rw [hd]
    cases d with
    | zero =>
      simp only [List.getElem?_cons_zero, Option.getD_some]
      exact ⟨fun h => by omega, fun h => by omega⟩
    | succ d =>
      have hd2 : d < R.length := by simp at hj; omega
      rw [List.getElem?_cons_succ, List.getElem?_cons_succ, List.getElem?_append_left hd2]
      exact ⟨fun _ => by omega, fun _ => rfl⟩
end Go.Proofs.Ytdpgojcljlfnbaa
end
section
/- The walk of MetaSizes. -/
set_option linter.unusedVariables false
set_option linter.unusedSimpArgs false
set_option maxRecDepth 100000
namespace Go.Proofs.Ytdpgojcljlfnbaa
open Go.RowKit
open Go.Proofs.YtdpgojcljlfnbaaW.PrintWords
open Go.Proofs.Ytdpgojcljlfnbaa.PMetaPacks (S39 k39 z39 rd_T39 at_T39)

def fewM (l : List S39) : Bool := (l.all fun m => decide (m.f1.length ≤ 200)) && decide (l.length ≤ 10)
theorem few_go (l : List S39) (hl : l.length ≤ 9223372036854775807) (n i k : Nat) (h : i + n = l.length) (hk : n < k) :
    PMetaPacks.serinetteref18_Few.l0 k l (i : Int) = some (((l.drop i).all fun m => decide (m.f1.length ≤ 200)) && decide (l.length ≤ 10)) := by
  induction n generalizing i k with
  | zero =>
    obtain ⟨k, rfl⟩ : ∃ q, k = q + 1 := ⟨k - 1, by omega⟩
    simp only [PMetaPacks.serinetteref18_Few.l0]
    rw [if_neg (by omega), List.drop_of_length_le (by omega)]
    rw [List.all_nil, Bool.true_and]
    exact congrArg some (decide_eq_decide.2 (by omega))
  | succ n ih =>
    obtain ⟨k, rfl⟩ : ∃ q, k = q + 1 := ⟨k - 1, by omega⟩
    have hi : i < l.length := by omega
    simp only [PMetaPacks.serinetteref18_Few.l0]
    rw [if_pos (by omega), if_pos (by omega), rd39 l i hi, drop39 l i hi, List.all_cons]
    by_cases hb : ((l[i]).f1.length : Int) > 200
    · rw [if_pos hb, decide_eq_false (by omega)]; rfl
    · rw [if_neg hb, decide_eq_true (by omega), show wrap64 ((i : Int) + 1) = ((i + 1 : Nat) : Int) by unfold wrap64; omega, ih (i + 1) k (by omega) (by omega), Bool.true_and]
theorem Few_any (A : Option Addr) (c : Nat) (l : List S39) (w : World) (hr : Kd.C k39 w A l.length l) (hc : l.length ≤ c) (hl : l.length ≤ 9223372036854775807) :
    Calls Try.prog 37 #[.slice A l.length c] w fun e w' => e = .returned (.bool (fewM l)) ∧ Below w.heap.size w w' := by
  refine (PMetaPacks.serinetteref18_Few.calls (l.length + 1) A c l (fewM l) w hr hc ?_).mono ?_
  · exact few_go l hl l.length 0 (l.length + 1) (by omega) (by omega)
  · rintro e w' ⟨rfl, hd⟩
    exact ⟨rfl, hd.below⟩
theorem fewM_small (l : List S39) (h : fewM l = true) : l.length ≤ 10 ∧ ∀ m ∈ l, m.f1.length ≤ 200 := by
  unfold fewM at h
  rw [Bool.and_eq_true, List.all_eq_true] at h
  exact ⟨of_decide_eq_true h.2, fun m hm => of_decide_eq_true (h.1 m hm)⟩

theorem heap39 : Kd.Heap k39 := Kd.heap_iso _ (Kd.heap_pair (Kd.heap_int _) (Kd.heap_slice 5 (Kd.heap_int _)))
theorem N_empty (w : World) (base : Nat) (hb : base ≤ w.heap.size) : Kd.N k39 39 (w.alloc (.cells #[] 39)) base (fun _ => True) (.slice (some ⟨w.heap.size, 0, none⟩) 0 0) [] :=
  Kd.R_N ⟨fun _ _ => trivial, [], ⟨rfl, .inr ⟨w.heap.size, 0, #[], rfl, hb, heap_alloc_new w _, Nat.le_refl _, by simp [maxLen], rfl, rfl⟩⟩, Reps.none _ _⟩
theorem F_lit1 (w : World) (x : Int) : Kd.F (Kd.int .u8) (w.alloc (.cells #[.int .u8 x] 5)) (fun k => k = w.heap.size) (some ⟨w.heap.size, 0, none⟩) 1 [x] := by
  intro W' hW
  refine Kd.C_of_reads (d := 0) ⟨rfl, by omega, fun _ => ⟨_, rfl, fun j hj => ?_⟩⟩
  obtain rfl : j = 0 := by omega
  rw [Addr.add_lit]
  have h := hW w.heap.size rfl (by simp)
  rw [World.cell?_of_block (a := ⟨w.heap.size, 0 + 0, none⟩) h, cell_new]
  rfl
theorem sizeM_take (l : List S39) (i : Nat) (h : i < l.length) : sizeM (l.take (i + 1)) = sizeM (l.take i) + 4 + (l[i]).f1.length := by
  rw [List.take_succ_eq_append_getElem h, sizeM_snoc]
theorem sizeM_le (l : List S39) (h : ∀ m ∈ l, m.f1.length ≤ 200) : sizeM l ≤ 4 + l.length * 204 := by
  unfold sizeM
  induction l with
  | nil => simp
  | cons a t ih =>
    have h1 := h a (by simp)
    have h2 := ih (fun m hm => h m (by simp [hm]))
    simp only [List.map_cons, List.sum_cons, List.length_cons] at *
    omega
/-- Where the last block that was looked at begins. -/
def lastM (l : List S39) (i : Nat) : Nat := if i = 0 then 4 else sizeM (l.take (i - 1))
set_option maxHeartbeats 1000000 in
theorem Sizes_walk (A : Option Addr) (c : Nat) (l : List S39) (w : World) (hr : Kd.C k39 w A l.length l) (hc : l.length ≤ c) (hs : SmallM l) :
    Calls Try.prog 8 #[.slice A l.length c] w fun e w' => e = .returned (.bool true) ∧ Below w.heap.size w w' := by
  have HC := Lib.hid hr
  have HS := Lib.hid hs
  have hl0 := hs.1
  clear hr hs
  go_enter Try.func8, Try.ntmps8
  go_wp2_with fail
  refine (awake18_any w).mono ?_
  rintro e w1 ⟨rfl, hb1⟩
  go_wp2_with fail
  refine (Few_any A c l w1 (Kd.C_below HC.out hb1) hc (by omega)).mono ?_
  rintro e w2 ⟨rfl, hb2⟩
  go_wp2_with fail
  refine (Pack_any A c l w2 (Kd.C_below HC.out (bt hb1 hb2)) hc HS.out).mono ?_
  rintro e w3 ⟨v3, rfl, hown3, hb3⟩
  have hbw3 := bt hb1 (bt hb2 hb3)
  by_cases hf : fewM l = true
  · by_cases he : packE l = 0
    · obtain ⟨P, R, T, x, -, hx0, hx1, hB, hC, hT, hP, hsz⟩ := pack_two l he
      obtain ⟨hl10, hl200⟩ := fewM_small l hf
      have hle := sizeM_le l hl200
      have hlp := (packE_zero l he).1
      have hBl : (packB l).length = P.length + 1 + R.length := by rw [hB]; simp; omega
      have hHE := Lib.hid (packE_more l he)
      have HO3 := Lib.hid hown3
      have HL200 := Lib.hid hl200
      rw [hf, he]
      clear hl200 hown3
      go_wp2
      go_loopg [7, 8, 9] l.length (fun gf v7 v8 v9 wx => ∃ i : Nat, v9 = .int .i64 (i : Int) ∧ v7 = .int .i64 (sizeM (l.take i) : Nat) ∧ v8 = .int .i64 (lastM l i : Nat) ∧ gf + i = l.length ∧ Below w3.heap.size w3 wx)
      case atStart => exact ⟨0, rfl, rfl, rfl, by omega, Below.refl _ _⟩
      case round =>
        obtain ⟨i, rfl, rfl, rfl, hgi, hbx⟩ := hrel
        by_cases hi : i < l.length
        · obtain ⟨ad, A1, c1, rfl, hx0, hx1, hlc, hrb⟩ := at39 (HC.out) i hi
          replace hx1 := pw_cell_below (bt hbw3 hbx) hx1
          have hst := sizeM_take l i hi
          have hml := HL200.out _ (List.getElem_mem hi)
          have hle2 : sizeM (l.take i) ≤ 4 + i * 204 := by
            have := sizeM_le (l.take i) (fun m hm => HL200.out m (List.mem_of_mem_take hm))
            rw [List.length_take] at this
            have h3 : min i l.length ≤ i := Nat.min_le_left _ _
            omega
          obtain ⟨m, hm⟩ : ∃ m, l[i] = m := ⟨_, rfl⟩
          rw [hm] at hx1 hst hml
          have hln : lastM l (i + 1) = sizeM (l.take i) := by unfold lastM; rw [if_neg (by omega)]; rfl
          obtain ⟨s0, hs0⟩ : ∃ s0, sizeM (l.take i) = s0 := ⟨_, rfl⟩
          rw [hs0] at hst hle2 hln
          have HST := Lib.hid hst; have HLN := Lib.hid hln
          clear hx0 hlc hrb hm hst hln
          go_wp2
          go_roundg (l.length - (i + 1))
          case measure => omega
          case rel =>
            refine ⟨i + 1, rfl, ?_, ?_, by omega, hbx⟩
            · rw [HST.out]; simp
            · rw [HLN.out, hs0]
        · obtain rfl : i = l.length := by omega
          have e7 : sizeM (l.take l.length) = (packB l).length := by rw [List.take_length, hsz]
          have e8 : lastM l l.length = P.length := by unfold lastM; rw [if_neg (by omega), hP]
          rw [e7, e8]
          obtain ⟨B, hBB⟩ : ∃ B, packB l = B := ⟨_, rfl⟩
          obtain ⟨Cx, hCC⟩ : ∃ Cx, packB (l ++ [moreM]) = Cx := ⟨_, rfl⟩
          rw [hBB] at hB hBl hsz HO3 ⊢
          rw [hCC] at hC
          have hlen10 : B.length ≤ 2100 := by omega
          have HCC := Lib.hid hCC; have HB := Lib.hid hB; have HCx := Lib.hid hC
          clear e7 e8 hP hCC hBB hsz hle hi hgi hB hC he
          have hbwx := bt hbw3 hbx
          have HF := Lib.hid (Kd.C_F heap39 HC.out)
          go_wp2_with (at_builtin; first
            | (refine Kd.N_append_rows k39 (w0 := w3) w3.heap.size rfl (.tmp 45) (.tmp 46) 80 39 (.agg #[(.int .i64 0), (.slice none 0 0)]) 32 rfl Try.underlying80 PMetaPacks.info39 rfl (by decide) (by decide) (.slice (some ⟨wr.heap.size, 0, none⟩) 0 0) [] l A l.length c (fun _ => True) (fun k => k < w.heap.size) rfl rfl (N_empty wr w3.heap.size hbx.size) (Kd.F_below (Kd.F_below HF.out hbwx) (ba _ _)) (fun k hk => ⟨trivial, by have := hbwx.size; simp [Value.ownBlock]; omega⟩) (fun _ _ => trivial) (below_alloc hbx _) (below_alloc hbx _).size (by simp; omega) ?_; intro v4 w4 hn4 hb4 hg4 hat4; have HN4 := Lib.hid hn4; clear hn4 hat4)
            | (refine Kd.N_append k39 (w0 := w3) (W := w4.alloc (.cells #[.int .u8 7] 5)) w3.heap.size rfl (.tmp 47) (.tmp 50) 80 39 (.agg #[(.int .i64 0), (.slice none 0 0)]) 32 rfl Try.underlying80 PMetaPacks.info39 rfl (by decide) (by decide) v4 ([] ++ l) moreM [.int .i64 2, .slice (some ⟨w4.heap.size, 0, none⟩) 1 1] (fun _ => True) (fun k => k = w4.heap.size) rfl (by simp; rfl) (PMetaPacks.k39_mkF _ _ moreM (by decide) (F_lit1 w4 7)) (fun k hk => ⟨trivial, by rw [hk]; intro he; have := Kd.N_lt HN4.out _ he.symm; omega⟩) (fun _ _ => trivial) (Kd.N_alloc HN4.out _) (below_alloc hb4 _) (below_alloc hb4 _).size (by simp; omega) ?_; intro v5 w5 hn5 hb5 hg5 hat5; have HN5 := Lib.hid hn5; clear hn5 hat5))
          obtain ⟨A5, c5, rfl, hc5, hr5⟩ := Kd.N_reads HN5.out
          rw [List.nil_append] at hc5 hr5 ⊢
          refine (Pack_any A5 c5 (l ++ [moreM]) w5 hr5 hc5 ⟨by rw [List.length_append]; simp; omega, fun m hm => ?_⟩).mono ?_
          · rcases List.mem_append.1 hm with hm | hm
            · have := HL200.out m hm; omega
            · rw [List.mem_singleton.1 hm]; decide
          rintro e w6 ⟨v6, rfl, hown6, hb6⟩
          rw [hHE.out]
          rw [HCC.out] at hown6
          have hbw6 := bt hb5 hb6
          obtain ⟨A3, c3, rfl, hr3⟩ := own_reads HO3.out
          obtain ⟨A6, c6, rfl, hr6⟩ := own_reads hown6
          have HR3 := Lib.hid (hr3.below hbw6)
          have HR6 := Lib.hid hr6
          have hCl : Cx.length = B.length + 5 := by rw [HCx.out, HB.out]; simp; omega
          clear hr5 hc5 HN5 HN4 hg4 hg5 hown6 hr3 hr6 HO3
          have hCC2 : (Cx.length : Int) = (P.length : Int) + 1 + R.length + 5 := by omega
          have hBB2 : (B.length : Int) = (P.length : Int) + 1 + R.length := by omega
          have f1 : ((B.length : Int) != (P.length : Int) + 1 + R.length) = false := by rw [hBB2, bne_self_eq_false]
          have f2 : ((Cx.length : Int) != (P.length : Int) + 1 + R.length + 5) = false := by rw [hCC2, bne_self_eq_false]
          go_wp2
          obtain ⟨ad3, rfl, hcl3⟩ := HR3.out.2.2 (by omega)
          obtain ⟨ad6, rfl, hcl6⟩ := HR6.out.2.2 (by omega)
          have HL3 := Lib.hid hcl3
          have HL6 := Lib.hid hcl6
          have hbwF : Below w.heap.size w w6 := bt hbw3 hbw6
          clear hcl3 hcl6 HR3 HR6 f1 f2 hCC2 hBB2
          go_loopg [12] (P.length + 1 + R.length) (fun gf v wx => ∃ j : Nat, v = .int .i64 (j : Int) ∧ gf + j = P.length + 1 + R.length ∧ Below w6.heap.size w6 wx)
          case atStart => exact ⟨0, rfl, by omega, Below.refl _ _⟩
          case round =>
            obtain ⟨j, rfl, hgj, hby⟩ := hrel
            by_cases hj : j < P.length + 1 + R.length
            · have k3 := pw_cell_below hby (HL3.out j (by omega))
              have k6 := pw_cell_below hby (HL6.out j (by omega))
              have hd := differ_at P R (130 :: T) x j (by rw [← HB.out]; omega)
              rw [← HB.out, ← HCx.out] at hd
              obtain ⟨b0, hb0⟩ : ∃ b0, B.getD j 0 = b0 := ⟨_, rfl⟩
              obtain ⟨c0, hc0⟩ : ∃ c0, Cx.getD j 0 = c0 := ⟨_, rfl⟩
              rw [hb0] at k3 hd
              rw [hc0] at k6 hd
              have hwl : ((j : Int) < (P.length : Int) + 1 + (R.length : Int)) := by omega
              by_cases hjP : j = P.length
              · have q1 : (b0 != c0) = true := by rw [bne_iff_ne]; exact fun h => hd.1 h hjP
                have q2 : ((j : Int) == (P.length : Int)) = true := by rw [beq_iff_eq, hjP]
                clear hd hb0 hc0 hjP
                go_wp2
                go_region
                go_wp2
                go_roundg (P.length + 1 + R.length - (j + 1))
                case measure => omega
                case rel => exact ⟨j + 1, rfl, by omega, by first | exact hby | exact below_drew hby⟩
              · have q1 : (b0 != c0) = false := by rw [bne_eq_false_iff_eq]; exact hd.2 hjP
                have q2 : ((j : Int) == (P.length : Int)) = false := by rw [beq_eq_false_iff_ne]; omega
                clear hd hb0 hc0 hjP
                go_wp2
                go_region
                go_wp2
                go_roundg (P.length + 1 + R.length - (j + 1))
                case measure => omega
                case rel => exact ⟨j + 1, rfl, by omega, by first | exact hby | exact below_drew hby⟩
            · have hwl : ¬ ((j : Int) < (P.length : Int) + 1 + (R.length : Int)) := by omega
              have g3 : B.getD P.length 0 = x + 128 := by rw [HB.out]; simp
              have g6 : Cx.getD P.length 0 = x := by rw [HCx.out]; simp
              have gN : Cx.getD (P.length + 1 + R.length) 0 = 130 := by
                rw [HCx.out, show P ++ x :: (R ++ 130 :: T) = (P ++ x :: R) ++ 130 :: T by simp, List.getD_eq_getElem?_getD, List.getElem?_append_right (by simp; omega)]
                rw [show P.length + 1 + R.length - (P ++ x :: R).length = 0 by simp; omega]
                rfl
              have k3 := pw_cell_below hby (HL3.out P.length (by omega))
              have k6 := pw_cell_below hby (HL6.out P.length (by omega))
              have kN := pw_cell_below hby (HL6.out (P.length + 1 + R.length) (by omega))
              rw [g3] at k3
              rw [g6] at k6
              rw [gN] at kN
              have e1 : (x + 128) % 256 = x + 128 := by omega
              have e2 : (x + 128 == x + 128) = true := by rw [beq_iff_eq]
              clear g3 g6 gN
              go_wp2
              go_region
              go_wp2
              go_ret
              exact ⟨rfl, bt hbwF (below_drew hby)⟩
    · have hne : (packE l != 0) = true := by rw [bne_iff_ne]; exact he
      rw [hf]
      generalize packE l = pe at *
      clear HC HS hown3 hf he
      go_wp2
      go_ret
      exact ⟨rfl, hbw3⟩
  · rw [Bool.not_eq_true] at hf
    rw [hf]
    clear HC HS hown3 hf
    generalize packE l = pe at *
    go_wp2
    go_ret
    exact ⟨rfl, hbw3⟩
end Go.Proofs.Ytdpgojcljlfnbaa
end
section
/- What the blocks are that bytes begin with. -/
set_option linter.unusedVariables false
set_option linter.unusedSimpArgs false
set_option maxRecDepth 100000
namespace Go.Proofs.Ytdpgojcljlfnbaa
open Go.RowKit
open Go.Proofs.YtdpgojcljlfnbaaW.PrintWords
open Go.Proofs.Ytdpgojcljlfnbaa.PMetaPacks (S39 k39 z39 rd_T39 at_T39)

def kindB (y : Int) : Int := y % 128
def sizeAt (b : List Int) (i : Nat) : Int := 65536 * b.getD (i + 1) 0 + 256 * b.getD (i + 2) 0 + b.getD (i + 3) 0
def blockAt (b : List Int) (i : Nat) : S39 := ⟨kindB (b.getD i 0), (b.drop (i + 4)).take (sizeAt b i).toNat⟩
def unGo (b : List Int) : Nat → List S39 → Nat → List S39 × Int × Int
  | 0, _, _ => ([], 0, 0)
  | f + 1, out, i =>
    if b.length < i + 4 then ([], 0, 2) else
    if kindB (b.getD i 0) = 127 then ([], 0, 8) else
    if ((kindB (b.getD i 0) == 0) == (out.length == 0)) = false then ([], 0, 5) else
    if b.length < i + 4 + (sizeAt b i).toNat then ([], 0, 2) else
    if 128 ≤ b.getD i 0 then (out ++ [blockAt b i], ((i + 4 + (sizeAt b i).toNat : Nat) : Int), 0) else
    unGo b f (out ++ [blockAt b i]) (i + 4 + (sizeAt b i).toNat)
def magicB (b : List Int) : Bool := (strOfNums (b.take 4)).toList == (strOfNums markB).toList
def unS (b : List Int) : List S39 × Int × Int := if b.length < 4 then ([], 0, 2) else if magicB b = true then unGo b (b.length + 1) [] 4 else ([], 0, 9)
/-- Bytes. -/
def BytesI (b : List Int) : Prop := ∀ y ∈ b, 0 ≤ y ∧ y ≤ 255
theorem BytesI.at_ {b : List Int} (h : BytesI b) (i : Nat) : 0 ≤ b.getD i 0 ∧ b.getD i 0 ≤ 255 := by
  rw [List.getD_eq_getElem?_getD]
  rcases Nat.lt_or_ge i b.length with hi | hi
  · rw [List.getElem?_eq_getElem hi]
    exact h _ (List.getElem_mem hi)
  · rw [List.getElem?_eq_none hi]
    exact ⟨Int.le_refl _, by decide⟩
theorem sizeAt_bd {b : List Int} (h : BytesI b) (i : Nat) : 0 ≤ sizeAt b i ∧ sizeAt b i ≤ 16777215 := by
  have h1 := h.at_ (i + 1); have h2 := h.at_ (i + 2); have h3 := h.at_ (i + 3)
  unfold sizeAt
  omega
theorem andNot128 : ∀ x : Fin 256, Go.bits .andNot .u8 (x.val : Int) 128 = (x.val : Int) % 128 := by decide +kernel
theorem and128 : ∀ x : Fin 256, ((Go.bits .and .u8 (x.val : Int) 128) == 0) = decide ((x.val : Int) < 128) := by decide +kernel
theorem kind_bits (x : Int) (h0 : 0 ≤ x) (h1 : x ≤ 255) : Go.bits .andNot .u8 x 128 = kindB x := by
  have := andNot128 ⟨x.toNat, by omega⟩
  rw [show ((⟨x.toNat, by omega⟩ : Fin 256).val : Int) = x from by simp; omega] at this
  exact this
theorem last_bits (x : Int) (h0 : 0 ≤ x) (h1 : x ≤ 255) : ((Go.bits .and .u8 x 128) == 0) = decide (x < 128) := by
  have := and128 ⟨x.toNat, by omega⟩
  rw [show ((⟨x.toNat, by omega⟩ : Fin 256).val : Int) = x from by simp; omega] at this
  exact this
end Go.Proofs.Ytdpgojcljlfnbaa
end
section
/- The contract of meta.Unpack. -/
set_option linter.unusedVariables false
set_option linter.unusedSimpArgs false
set_option maxRecDepth 100000
namespace Go.Proofs.Ytdpgojcljlfnbaa
open Go.RowKit
open Go.Proofs.YtdpgojcljlfnbaaW.PrintWords
open Go.Proofs.Ytdpgojcljlfnbaa.PMetaPacks (S39 k39 z39 rd_T39 at_T39)

theorem ret_triple {v : Value} {a b c d : Int} (h : a = c) (h2 : b = d) : Ending.returned (.tuple #[v, .int .i64 a, .int .i64 b]) = .returned (.tuple #[v, .int .i64 c, .int .i64 d]) := by rw [h, h2]
theorem high_or (a b c : Int) (ha : 0 ≤ a ∧ a ≤ 255) (hb : 0 ≤ b ∧ b ≤ 255) (hc : 0 ≤ c ∧ c ≤ 255) :
    bits .or .i64 (a * 65536) (b * 256) = a * 65536 + b * 256 ∧ bits .or .i64 (a * 65536 + b * 256) c = a * 65536 + b * 256 + c := by
  obtain ⟨x, rfl⟩ : ∃ x : Nat, a = (x : Int) := ⟨a.toNat, by omega⟩
  obtain ⟨y, rfl⟩ : ∃ x : Nat, b = (x : Int) := ⟨b.toNat, by omega⟩
  obtain ⟨z, rfl⟩ : ∃ x : Nat, c = (x : Int) := ⟨c.toNat, by omega⟩
  have h1 := or_step x (y * 256) 16 (by omega)
  have h2 := or_step (x * 256 + y) z 8 (by omega)
  constructor
  · have := bits_or_i64_nat (x * 2 ^ 16) (y * 256) (by omega) (by omega)
    rw [h1] at this
    rw [show ((x : Int) * 65536) = ((x * 2 ^ 16 : Nat) : Int) by omega, show ((y : Int) * 256) = ((y * 256 : Nat) : Int) by omega, this]
    omega
  · have := bits_or_i64_nat ((x * 256 + y) * 2 ^ 8) z (by omega) (by omega)
    rw [h2] at this
    rw [show ((x : Int) * 65536 + (y : Int) * 256) = (((x * 256 + y) * 2 ^ 8 : Nat) : Int) by omega, this]
    omega
set_option maxHeartbeats 1000000 in
theorem Unpack_any (A : Option Addr) (c : Nat) (b : List Int) (w : World) (hr : ReadsInt w .u8 A b.length b) (hc : b.length ≤ c) (hb : BytesI b) (hl : b.length ≤ 1000000) :
    Calls Try.prog 40 #[.slice A b.length c] w fun e w' => ∃ v, e = .returned (.tuple #[v, .int .i64 (unS b).2.1, .int .i64 (unS b).2.2]) ∧ Kd.N k39 39 w' w.heap.size (fun _ => True) v (unS b).1 ∧ Below w.heap.size w w' := by
  have kc := fun (w : World) (C : Array Value) (n c : Nat) => Lib.run_convert_bytes_const (P := Try.prog) w 37 5 C n c Try.underlying37 Try.underlying5
  have HR := Lib.hid hr
  have HBY := Lib.hid hb
  clear hr hb
  by_cases h4 : b.length < 4
  · have hE : Hid (unS b = ([], 0, 2)) := Lib.hid (by unfold unS; rw [if_pos h4])
    go_enter Try.func40, Try.ntmps40
    go_wp2
    go_ret3
    exact ⟨_, ret_triple (by rw [hE.out]) (by rw [hE.out]), by rw [hE.out]; exact Kd.N_nil _ _ _ _ _, Below.refl _ _⟩
  go_enter Try.func40, Try.ntmps40
  go_wp2_with fail
  have hmk : ReadsInt (w.alloc (.cells #[.int .u8 102, .int .u8 76, .int .u8 97, .int .u8 67] 5 (4, 5))) .u8 (some ⟨w.heap.size, 0, none⟩) markB.length markB := by
    refine ⟨rfl, by decide, fun _ => ⟨_, rfl, fun j hj => ?_⟩⟩
    rw [Addr.add_lit, cell_new]
    match j, hj with
    | 0, _ => rfl
    | 1, _ => rfl
    | 2, _ => rfl
    | 3, _ => rfl
  have hbq := ba w (.cells #[.int .u8 102, .int .u8 76, .int .u8 97, .int .u8 67] 5 (4, 5))
  refine (bytesHasPrefix_any A (some ⟨w.heap.size, 0, none⟩) c 4 b markB _ (HR.out.below hbq) hmk hc (by show 4 ≤ _; omega)).mono ?_
  rintro e w' ⟨rfl, rfl⟩
  obtain ⟨W0, hW0⟩ : ∃ W0, w.alloc (.cells #[.int .u8 102, .int .u8 76, .int .u8 97, .int .u8 67] 5 (4, 5)) = W0 := ⟨_, rfl⟩
  rw [hW0] at hbq ⊢
  have hmg : ((strOfNums (b.take markB.length)).toList == (strOfNums markB).toList) = magicB b := rfl
  rw [hmg]
  clear hW0 hmg hmk
  cases hm : magicB b
  · have hE : Hid (unS b = ([], 0, 9)) := Lib.hid (by unfold unS; rw [if_neg h4, hm]; rfl)
    go_wp2
    go_ret3
    exact ⟨_, ret_triple (by rw [hE.out]) (by rw [hE.out]), by rw [hE.out]; exact Kd.N_nil _ _ _ _ _, hbq⟩
  have HE : Hid (unS b = unGo b (b.length + 1) [] 4) := Lib.hid (by unfold unS; rw [if_neg h4, if_pos hm])
  clear hm
  go_wp2
  go_loopg [5, 6, 7] (b.length + 1) (fun gf v5 v6 v7 wx => ∃ (out : List S39) (i : Nat) (more : Bool), v6 = .int .i64 (i : Int) ∧ v7 = .bool more ∧ Kd.N k39 39 wx w.heap.size (fun _ => True) v5 out ∧ Below w.heap.size w wx ∧ i ≤ b.length ∧ 4 * out.length ≤ i ∧
    (more = true → Hid (unS b = unGo b gf out i) ∧ b.length < i + gf) ∧ (more = false → Hid (unS b = (out, (i : Int), 0))))
  case atStart => exact ⟨[], 4, true, rfl, rfl, Kd.N_nil _ _ _ _ _, hbq, by omega, by simp, fun _ => ⟨HE, by omega⟩, fun h => absurd h (by decide)⟩
  case round =>
    clear hbq HE
    obtain ⟨out, i, more, rfl, rfl, hn, hbw, hib, hol, hgo, hend⟩ := hrel
    obtain ⟨Ao, co, rfl⟩ := Kd.N_slice hn
    have HN := Lib.hid hn
    cases more
    · have hE := hend rfl
      clear hend hgo hn
      go_wp2
      go_ret3
      exact ⟨_, ret_triple (by rw [hE.out]) (by rw [hE.out]), by rw [hE.out]; exact HN.out, hbw⟩
    · obtain ⟨HG, hfu⟩ := hgo rfl
      obtain ⟨g', rfl⟩ : ∃ g', gk = g' + 1 := ⟨gk - 1, by omega⟩
      have hg := HG.out
      rw [unGo] at hg
      clear hgo hend HG hn
      by_cases hs : b.length < i + 4
      · rw [if_pos hs] at hg
        have hE := Lib.hid hg
        have hsb : ((b.length : Int) < (i : Int) + 4) := by omega
        clear hg
        go_wp2
        go_ret3
        exact ⟨_, ret_triple (by rw [hE.out]) (by rw [hE.out]), by rw [hE.out]; exact Kd.N_nil _ _ _ _ _, hbw⟩
      · rw [if_neg hs] at hg
        have hrw := HR.out.below hbw
        obtain ⟨⟨bk, of, sp⟩, rfl, hcl⟩ := hrw.2.2 (by omega)
        have c0 := hcl i (by omega)
        have cz := hcl 0 (by omega)
        obtain rfl : sp = none := by simpa [Addr.add] using World.cell?_spot cz
        clear cz
        simp only [Addr.add_lit] at hcl c0
        have c1 := hcl (i + 1) (by omega)
        have c2 := hcl (i + 2) (by omega)
        have c3 := hcl (i + 3) (by omega)
        have y0b := HBY.out.at_ i
        have y1b := HBY.out.at_ (i + 1)
        have y2b := HBY.out.at_ (i + 2)
        have y3b := HBY.out.at_ (i + 3)
        obtain ⟨n, hnn⟩ : ∃ n : Nat, sizeAt b i = (n : Int) := ⟨(sizeAt b i).toNat, by have := sizeAt_bd HBY.out i; omega⟩
        have hnd : sizeAt b i = 65536 * b.getD (i + 1) 0 + 256 * b.getD (i + 2) 0 + b.getD (i + 3) 0 := rfl
        have HBL : Hid (blockAt b i = ⟨kindB (b.getD i 0), (b.drop (i + 4)).take n⟩) := Lib.hid (by unfold blockAt; rw [hnn]; rfl)
        rw [hnn, Int.toNat_natCast] at hg
        rw [hnn] at hnd
        obtain ⟨y0, e0⟩ : ∃ y, b.getD i 0 = y := ⟨_, rfl⟩
        obtain ⟨y1, e1⟩ : ∃ y, b.getD (i + 1) 0 = y := ⟨_, rfl⟩
        obtain ⟨y2, e2⟩ : ∃ y, b.getD (i + 2) 0 = y := ⟨_, rfl⟩
        obtain ⟨y3, e3⟩ : ∃ y, b.getD (i + 3) 0 = y := ⟨_, rfl⟩
        rw [e0] at c0 y0b hg HBL
        rw [e1] at c1 y1b hnd
        rw [e2] at c2 y2b hnd
        rw [e3] at c3 y3b hnd
        have hkb := kind_bits y0 y0b.1 y0b.2
        have hlb := last_bits y0 y0b.1 y0b.2
        obtain ⟨o1, o2⟩ := high_or y1 y2 y3 y1b y2b y3b
        have hsz : y1 * 65536 + y2 * 256 + y3 = (n : Int) := by omega
        rw [hsz] at o2
        have hk0 : 0 ≤ kindB y0 ∧ kindB y0 ≤ 127 := by unfold kindB; omega
        obtain ⟨kd, hkd⟩ : ∃ kd, kindB y0 = kd := ⟨_, rfl⟩
        rw [hkd] at hkb hg HBL hk0
        have HG2 := Lib.hid hg
        have hnbd : n ≤ 16777215 := by omega
        obtain ⟨y0l, y0h⟩ := y0b
        obtain ⟨y1l, y1h⟩ := y1b
        obtain ⟨y2l, y2h⟩ := y2b
        obtain ⟨y3l, y3h⟩ := y3b
        obtain ⟨k0l, k0h⟩ := hk0
        clear hg e0 e1 e2 e3 hkd hcl hrw hnd hnn
        have hsb : (i : Int) + 4 ≤ (b.length : Int) := by omega
        go_wp2
        have w1 : IntKind.i64.wrap ((i : Int) + 1) = (i : Int) + 1 := IntWalk.i64_in _ (by omega)
        have w2 : IntKind.i64.wrap ((i : Int) + 2) = (i : Int) + 2 := IntWalk.i64_in _ (by omega)
        have w3 : IntKind.i64.wrap ((i : Int) + 3) = (i : Int) + 3 := IntWalk.i64_in _ (by omega)
        have u1 : 0 ≤ (i : Int) + 1 := by omega
        have u2 : 0 ≤ (i : Int) + 2 := by omega
        have u3 : 0 ≤ (i : Int) + 3 := by omega
        have v1 : (i : Int) + 1 < (b.length : Int) := by omega
        have v2 : (i : Int) + 2 < (b.length : Int) := by omega
        have v3 : (i : Int) + 3 < (b.length : Int) := by omega
        have t1 : ((i : Int) + 1).toNat = i + 1 := by omega
        have t2 : ((i : Int) + 2).toNat = i + 2 := by omega
        have t3 : ((i : Int) + 3).toNat = i + 3 := by omega
        go_region
        clear u1 u2 u3 v1 v2 v3 t1 t2 t3 w1 w2 w3
        have hbd := below_drew hbw
        by_cases h127 : kd = 127
        · have hb127 : (kd == 127) = true := by rw [beq_iff_eq]; exact h127
          have hE := HG2.out
          rw [if_pos h127] at hE
          have HE := Lib.hid hE
          clear hE h127 HG2
          go_wp2
          go_ret3
          exact ⟨_, ret_triple (by rw [HE.out]) (by rw [HE.out]), by rw [HE.out]; exact Kd.N_nil _ _ _ _ _, below_drew hbw⟩
        · have hb127 : (kd == 127) = false := by rw [beq_eq_false_iff_ne]; exact h127
          have hg := HG2.out
          rw [if_neg h127] at hg
          clear HG2 h127
          by_cases hf : ((kd == 0) == (out.length == 0)) = false
          · have hE := hg
            rw [if_pos hf] at hE
            have HE := Lib.hid hE
            have hfb : (!(kd == 0) == ((out.length : Int) == 0)) = true := by
              have e : ((out.length : Int) == 0) = (out.length == 0) := by rw [Bool.eq_iff_iff]; simp
              rw [e, hf]; rfl
            clear hg hE hf
            go_wp2
            go_ret3
            exact ⟨_, ret_triple (by rw [HE.out]) (by rw [HE.out]), by rw [HE.out]; exact Kd.N_nil _ _ _ _ _, hbd⟩
          · rw [if_neg hf] at hg
            have hfb : (!(kd == 0) == ((out.length : Int) == 0)) = false := by
              have e : ((out.length : Int) == 0) = (out.length == 0) := by rw [Bool.eq_iff_iff]; simp
              rw [Bool.not_eq_false] at hf
              rw [e, hf]; rfl
            clear hf
            by_cases hsh : b.length < i + 4 + n
            · rw [if_pos hsh] at hg
              have HE := Lib.hid hg
              have hsb2 : (b.length : Int) < (i : Int) + 4 + (n : Int) := by omega
              clear hg
              go_wp2
              go_ret3
              exact ⟨_, ret_triple (by rw [HE.out]) (by rw [HE.out]), by rw [HE.out]; exact Kd.N_nil _ _ _ _ _, hbd⟩
            · rw [if_neg hsh, HBL.out] at hg
              have hsb2 : (i : Int) + 4 + (n : Int) ≤ (b.length : Int) := by omega
              have HG3 := Lib.hid hg
              clear hg
              obtain ⟨i0, hi0, hz0, hs0, hb0⟩ := info_parts info_u8
              obtain ⟨A1, hcut, hrd, -⟩ := print_mid_int (P := Try.prog) (k := .u8) 37 5 Try.underlying37 hi0 hs0 (some ⟨bk, of, none⟩) c b ((i : Int) + (4 + (n : Int)) - (n : Int)) ((i : Int) + (4 + (n : Int))) (by omega) (by omega) (by omega) hc
              have hys : (b.take ((i : Int) + (4 + (n : Int))).toNat).drop ((i : Int) + (4 + (n : Int)) - (n : Int)).toNat = (b.drop (i + 4)).take n := by
                rw [show ((i : Int) + (4 + (n : Int))).toNat = i + 4 + n by omega, show ((i : Int) + (4 + (n : Int)) - (n : Int)).toNat = i + 4 by omega, List.drop_take]
                congr 1
                omega
              rw [hys] at hcut hrd
              have hyl : ((b.drop (i + 4)).take n).length = n := by rw [List.length_take, List.length_drop]; omega
              obtain ⟨ys, hyy⟩ : ∃ ys, (b.drop (i + 4)).take n = ys := ⟨_, rfl⟩
              rw [hyy] at hcut hrd hyl
              rw [hyy] at HG3
              have HRD := Lib.hid (hrd wr.drew (HR.out.below hbd))
              clear hi0 hz0 hs0 hb0 hrd hys hyy HBL c1 c2 c3 o1 o2 hkb hsz
              subst hyl
              by_cases hy : y0 < 128
              · have HG4 := Lib.hid (by have h := HG3.out; rw [if_neg (by omega)] at h; exact h)
                rw [decide_eq_true hy] at hlb
                clear HG3
                go_wp2_with (first | (go_at_call 57; refine (bytesClone_any A1 ys.length _ ys wr.drew HRD.out (by omega)).mono ?_; rintro e w1 ⟨v1, rfl, hown1, hb1⟩; obtain ⟨A2, c2, rfl, hl2, hq2⟩ := Kd.R_reads (Kd.R_of_own (h1 := fun _ => rfl) (ok := fun k => some k = v1.ownBlock) hown1 (fun k hk => hk.symm)); have HO1 := Lib.hid hown1; have hbw1 := bt hbd hb1; clear hq2 hown1) | (at_builtin; refine Kd.N_append k39 (w0 := w) (W := w1) w.heap.size rfl (.tmp 82) (.tmp 92) 80 39 (.agg #[(.int .i64 0), (.slice none 0 0)]) 32 rfl Try.underlying80 PMetaPacks.info39 rfl (by decide) (by decide) (.slice Ao out.length co) out ⟨kd, ys⟩ [.int .i64 kd, .slice A2 ys.length c2] (fun _ => True) (fun k => some k = (Value.slice A2 ys.length c2).ownBlock) rfl rfl (PMetaPacks.k39_mkF _ _ ⟨kd, ys⟩ hl2 (Kd.R_F (Kd.R_of_own (h1 := fun _ => rfl) (ok := fun k => some k = (Value.slice A2 ys.length c2).ownBlock) HO1.out (fun k hk => hk.symm)))) (fun k hk => ⟨trivial, fun he => by have h1 := own_base HO1.out k hk.symm; have h2 := Kd.N_lt HN.out k he.symm; have h3 : wr.drew.heap.size = wr.heap.size := rfl; omega⟩) (fun _ _ => trivial) (Kd.N_below (Kd.N_drew HN.out) hb1) hbw1 hbw1.size (by omega) ?_; intro v2 w2 hn2 hb2 hg2 hat2; have HN2 := Lib.hid hn2; clear hn2 hat2 hg2))
                go_roundg g'
                case measure => omega
                case rel =>
                  refine ⟨out ++ [⟨kd, ys⟩], i + 4 + ys.length, true, ?_, rfl, HN2.out, hb2, by omega, by simp; omega, fun _ => ⟨HG4, by omega⟩, fun h => absurd h (by decide)⟩
                  rw [show ((i + 4 + ys.length : Nat) : Int) = (i : Int) + (4 + (ys.length : Int)) by omega]
              · have HG4 := Lib.hid (by have h := HG3.out; rw [if_pos (by omega)] at h; exact h)
                rw [decide_eq_false hy] at hlb
                clear HG3
                go_wp2_with (first | (go_at_call 57; refine (bytesClone_any A1 ys.length _ ys wr.drew HRD.out (by omega)).mono ?_; rintro e w1 ⟨v1, rfl, hown1, hb1⟩; obtain ⟨A2, c2, rfl, hl2, hq2⟩ := Kd.R_reads (Kd.R_of_own (h1 := fun _ => rfl) (ok := fun k => some k = v1.ownBlock) hown1 (fun k hk => hk.symm)); have HO1 := Lib.hid hown1; have hbw1 := bt hbd hb1; clear hq2 hown1) | (at_builtin; refine Kd.N_append k39 (w0 := w) (W := w1) w.heap.size rfl (.tmp 82) (.tmp 92) 80 39 (.agg #[(.int .i64 0), (.slice none 0 0)]) 32 rfl Try.underlying80 PMetaPacks.info39 rfl (by decide) (by decide) (.slice Ao out.length co) out ⟨kd, ys⟩ [.int .i64 kd, .slice A2 ys.length c2] (fun _ => True) (fun k => some k = (Value.slice A2 ys.length c2).ownBlock) rfl rfl (PMetaPacks.k39_mkF _ _ ⟨kd, ys⟩ hl2 (Kd.R_F (Kd.R_of_own (h1 := fun _ => rfl) (ok := fun k => some k = (Value.slice A2 ys.length c2).ownBlock) HO1.out (fun k hk => hk.symm)))) (fun k hk => ⟨trivial, fun he => by have h1 := own_base HO1.out k hk.symm; have h2 := Kd.N_lt HN.out k he.symm; have h3 : wr.drew.heap.size = wr.heap.size := rfl; omega⟩) (fun _ _ => trivial) (Kd.N_below (Kd.N_drew HN.out) hb1) hbw1 hbw1.size (by omega) ?_; intro v2 w2 hn2 hb2 hg2 hat2; have HN2 := Lib.hid hn2; clear hn2 hat2 hg2))
                go_roundg g'
                case measure => omega
                case rel =>
                  refine ⟨out ++ [⟨kd, ys⟩], i + 4 + ys.length, false, ?_, rfl, HN2.out, hb2, by omega, by simp; omega, fun h => absurd h (by decide), fun _ => HG4⟩
                  rw [show ((i + 4 + ys.length : Nat) : Int) = (i : Int) + (4 + (ys.length : Int)) by omega]
end Go.Proofs.Ytdpgojcljlfnbaa
end
section
/- The contract of serinetteref18.Pack; for up to 2^20 blocks with bodies of up to 2^20 bytes. -/
set_option linter.unusedVariables false
set_option linter.unusedSimpArgs false
set_option maxRecDepth 100000
namespace Go.Proofs.Ytdpgojcljlfnbaa
open Go.RowKit
open Go.Proofs.YtdpgojcljlfnbaaW.PrintWords
open Go.Proofs.Ytdpgojcljlfnbaa.PMetaPacks (S39 k39 z39 rd_T39 at_T39)

theorem wrp64 (x : Int) (h0 : -9223372036854775808 ≤ x) (h1 : x ≤ 9223372036854775807) : wrap64 x = x := by unfold wrap64; omega
theorem number3 (n k : Nat) (hn : n ≤ 16777215) : PMetaPacks.serinetteref18_Number.f (k + 4) (n : Int) 3 = some [(n : Int) / 65536, (n : Int) / 256 % 256, (n : Int) % 256] := by
  have d1 : wrap64 (Int.tdiv (n : Int) 256) = ((n / 256 : Nat) : Int) := by
    rw [Int.tdiv_eq_ediv_of_nonneg (by omega), wrp64 _ (by omega) (by omega)]
    omega
  have d2 : wrap64 (Int.tdiv ((n / 256 : Nat) : Int) 256) = ((n / 65536 : Nat) : Int) := by
    rw [Int.tdiv_eq_ediv_of_nonneg (by omega), wrp64 _ (by omega) (by omega)]
    omega
  have m0 : Int.tmod (n : Int) 256 % 256 = (n : Int) % 256 := by rw [Int.tmod_eq_emod_of_nonneg (by omega)]; omega
  have m1 : Int.tmod ((n / 256 : Nat) : Int) 256 % 256 = (n : Int) / 256 % 256 := by rw [Int.tmod_eq_emod_of_nonneg (by omega)]; omega
  have m2 : Int.tmod ((n / 65536 : Nat) : Int) 256 % 256 = (n : Int) / 65536 := by rw [Int.tmod_eq_emod_of_nonneg (by omega)]; omega
  have w0 : wrap64 (0 + 1) = 1 := (wrp64 (0 + 1) (by decide) (by decide)).trans (by decide)
  have w1 : wrap64 (1 + 1) = 2 := (wrp64 (1 + 1) (by decide) (by decide)).trans (by decide)
  have w2 : wrap64 (2 + 1) = 3 := (wrp64 (2 + 1) (by decide) (by decide)).trans (by decide)
  unfold PMetaPacks.serinetteref18_Number.f
  rw [PMetaPacks.serinetteref18_Number.l0, if_pos (by decide), Option.bind_some, if_pos (by simp), d1, m0, w0]
  rw [PMetaPacks.serinetteref18_Number.l0, if_pos (by decide), Option.bind_some, if_pos (by simp), d2, m1, w1]
  rw [PMetaPacks.serinetteref18_Number.l0, if_pos (by decide), Option.bind_some, if_pos (by simp), m2, w2]
  rw [PMetaPacks.serinetteref18_Number.l0, if_neg (by decide)]
  rfl
theorem number3_any (n : Nat) (w : World) (hn : n ≤ 16777215) :
    Calls Try.prog 69 #[.int .i64 n, .int .i64 3] w fun e w' => ∃ v, e = .returned v ∧ OwnI w' w.heap.size 5 .u8 v [(n : Int) / 65536, (n : Int) / 256 % 256, (n : Int) % 256] ∧ Below w.heap.size w w' := by
  refine (PMetaPacks.serinetteref18_Number.calls 4 (n : Int) 3 _ w (number3 n 0 hn)).mono ?_
  rintro e w' ⟨v, rfl, h1, h2⟩
  exact ⟨v, rfl, Kd.own_of_R h1, h2⟩
theorem refOdd_any (k : Int) (A : Option Addr) (xs : List Int) (c : Nat) (w : World) (hr : ReadsInt w .u8 A xs.length xs) (hc : xs.length ≤ c) :
    Calls Try.prog 36 #[.agg #[.int .i64 k, .slice A xs.length c]] w fun e w' => e = .returned (.int .i64 (oddM k xs.length)) ∧ Below w.heap.size w w' := by
  refine PMetaPacks.serinetteref18_Odd.calls 1 k A c xs _ w (Kd.C_of_reads (d := 0) hr) hc ?_
  unfold PMetaPacks.serinetteref18_Odd.f oddM
  by_cases h0 : k < 0
  · rw [if_pos h0, if_pos (.inl h0)]; rfl
  · rw [if_neg h0]
    by_cases h1 : k > 126
    · rw [decide_eq_true h1, if_pos (.inr (by omega))]; rfl
    · rw [decide_eq_false h1, if_neg (by omega)]
      show (if (xs.length : Int) > 16777215 then some (7 : Int) else some 0) = _
      by_cases h2 : (xs.length : Int) > 16777215
      · rw [if_pos h2, if_pos (by omega)]
      · rw [if_neg h2, if_neg (by omega)]
theorem reads_lit1_at (w : World) (g : Nat) (a : Int) (hg : g = w.heap.size) : ReadsInt (w.alloc (.cells #[.int .u8 a] 5)) .u8 (some ⟨g, 0, none⟩) 1 [a] := by
  subst hg
  refine ⟨rfl, by omega, fun _ => ⟨_, rfl, fun j hj => ?_⟩⟩
  rw [Addr.add_lit, cell_new]
  match j, hj with
  | 0, _ => rfl

set_option maxHeartbeats 2000000 in
theorem refPack_any (A : Option Addr) (c : Nat) (l : List S39) (w : World) (hr : Kd.C k39 w A l.length l) (hc : l.length ≤ c) (hs : SmallM l) :
    Calls Try.prog 39 #[.slice A l.length c] w fun e w' => ∃ v, e = .returned (.tuple #[v, .int .i64 (packE l)]) ∧ OwnI w' w.heap.size 5 .u8 v (packB l) ∧ Below w.heap.size w w' := by
  obtain ⟨hln, hlb⟩ := hs
  by_cases h0 : l.length = 0
  · have hE : packE l = 2 := by unfold packE; rw [if_pos h0]
    have hB : packB l = [] := by unfold packB; rw [hE]; rfl
    rw [hE, hB, h0]
    go_enter Try.func39, Try.ntmps39
    go_wp2
    go_ret2
    exact ⟨_, rfl, World.ownsRow_nil _ _ _ _, Below.refl _ _⟩
  have HC := Lib.hid hr
  have hlen : ((l.length : Int) == 0) = false := by rw [beq_eq_false_iff_ne]; omega
  have HLB := Lib.hid hlb
  have kc := fun (w : World) (C : Array Value) (n c : Nat) => Lib.run_convert_bytes_const (P := Try.prog) w 37 5 C n c Try.underlying37 Try.underlying5
  have n0 := Lib.hid h0
  clear hr hlb
  go_enter Try.func39, Try.ntmps39
  go_wp2
  go_loopg [4] l.length (fun gf v wx => ∃ i : Nat, v = .int .i64 (i : Int) ∧ gf + i = l.length ∧ Hid (oddAll l = oddAll (l.drop i)) ∧ Below w.heap.size w wx)
  case atStart => exact ⟨0, rfl, by omega, Lib.hid rfl, Below.refl _ _⟩
  case round =>
    obtain ⟨i, rfl, hgi, hod, hbw⟩ := hrel
    by_cases hi : i < l.length
    · obtain ⟨ad, A1, c1, rfl, hx0, hx1, hlc, hrb⟩ := at39 (HC.out) i hi
      have hod2 := hod.out
      rw [drop39 l i hi, oddAll] at hod2
      replace hx0 := pw_cell_below hbw hx0
      replace hx1 := pw_cell_below hbw hx1
      obtain ⟨m, hm⟩ : ∃ m, l[i] = m := ⟨_, rfl⟩
      rw [hm] at hx0 hx1 hod2 hlc hrb
      have HOD := Lib.hid hod2
      have HRB := Lib.hid (hrb.below hbw)
      clear hod hod2 hrb hm
      go_wp2_with fail
      refine (refOdd_any m.f0 A1 m.f1 c1 _ HRB.out hlc).mono ?_
      rintro e w1 ⟨rfl, hb1⟩
      have hbw1 : Below w.heap.size w w1 := bt hbw hb1
      by_cases ho : oddM m.f0 m.f1.length = 0
      · have hob : (oddM m.f0 m.f1.length != 0) = false := by rw [ho]; rfl
        have HOD2 := Lib.hid (by have h := HOD.out; rw [if_pos ho] at h; exact h)
        clear HOD ho
        go_wp2
        go_roundg (l.length - (i + 1))
        case measure => omega
        case rel => exact ⟨i + 1, rfl, by omega, HOD2, hbw1⟩
      · have hob : (oddM m.f0 m.f1.length != 0) = true := by rw [bne_iff_ne]; exact ho
        have hE : packE l = oddM m.f0 m.f1.length := by
          have h := HOD.out
          rw [if_neg ho] at h
          unfold packE
          rw [if_neg h0, h, if_neg ho]
        have hB : packB l = [] := by unfold packB; rw [hE, if_neg ho]
        have HE := Lib.hid hE
        have HB := Lib.hid hB
        clear HOD ho hE hB
        generalize oddM m.f0 m.f1.length = oe at *
        go_wp2
        go_ret2
        exact ⟨_, ret_pair HE.out.symm, by rw [HB.out]; exact World.ownsRow_nil _ _ _ _, hbw1⟩
    · have hodz : oddAll l = 0 := by
        rw [hod.out, List.drop_of_length_le (by omega)]; rfl
      have HPE : Hid (packE l = if formOk 0 l then 0 else 5) := Lib.hid (by unfold packE; rw [if_neg n0.out, if_pos hodz])
      have hmk : Marked (wr.alloc (.cells #[.int .u8 102, .int .u8 76, .int .u8 97, .int .u8 67] 5 (4, 5))) w.heap.size 5 .u8 (.slice (some ⟨wr.heap.size, 0, none⟩) 4 4) markB := by
        refine .inr ⟨wr.heap.size, rfl, hbw.size, by simp, ?_⟩
        intro j u hj
        rw [cell_new, ← hj]
        simp [nums, markB]
      have HMK := Lib.hid hmk
      clear hod hmk
      go_wp2
      have hbq := below_alloc hbw (.cells #[.int .u8 102, .int .u8 76, .int .u8 97, .int .u8 67] 5 (4, 5))
      have HOK := Lib.hid (oddAll_zero l hodz)
      obtain ⟨W0, hW0⟩ : ∃ W0, wr.alloc (.cells #[.int .u8 102, .int .u8 76, .int .u8 97, .int .u8 67] 5 (4, 5)) = W0 := ⟨_, rfl⟩
      rw [hW0] at hbq HMK
      have HW0 := Lib.hid hW0
      go_loopg [6, 7] l.length (fun gf v7 v wx => ∃ (i : Nat) (out : List Int), v = .int .i64 (i : Int) ∧ gf + i = l.length ∧ Marked wx w.heap.size 5 .u8 v7 out ∧ (0 < i → OwnI wx w.heap.size 5 .u8 v7 out) ∧ Hid (out ++ bodyB (l.drop i) = markB ++ bodyB l) ∧ Hid (formOk 0 l = formOk i (l.drop i)) ∧ out.length ≤ 4 + i * 1048580 ∧ Below w.heap.size w wx)
      case atStart => exact ⟨0, markB, rfl, by omega, HW0.out ▸ HMK.out, fun h => absurd h (by omega), Lib.hid rfl, Lib.hid rfl, by simp [markB], HW0.out ▸ hbq⟩
      case round =>
        clear HMK hbq HW0 hW0 hi hgi hbw
        obtain ⟨i, out, rfl, hgi, hmk, hown0, hout, hform, hol, hbw⟩ := hrel
        by_cases hi : i < l.length
        · obtain ⟨ad, A1, c1, rfl, hx0, hx1, hlc, hrb⟩ := at39 (HC.out) i hi
          have hmem : l[i] ∈ l := List.getElem_mem hi
          have hok := HOK.out _ hmem
          have hlb := HLB.out _ hmem
          have hout2 := hout.out
          have hform2 := hform.out
          rw [drop39 l i hi] at hout2 hform2
          rw [bodyB] at hout2
          rw [formOk] at hform2
          have hemp : (l.drop (i + 1)).isEmpty = decide (i + 1 = l.length) := by
            rw [Bool.eq_iff_iff, List.isEmpty_iff, decide_eq_true_iff, List.drop_eq_nil_iff]
            omega
          rw [hemp] at hout2
          obtain ⟨m, hm⟩ : ∃ m, l[i] = m := ⟨_, rfl⟩
          rw [hm] at hx0 hx1 hok hlb hout2 hform2 hlc hrb
          have HX1 := Lib.hid (fun (W : World) (hb : Below w.heap.size w W) => pw_cell_below hb hx1)
          replace hx0 := pw_cell_below hbw hx0
          replace hx1 := pw_cell_below hbw hx1
          obtain ⟨h00, h126, hl24⟩ := hok
          have HOUT := Lib.hid hout2
          have HFORM := Lib.hid hform2
          have HRB := Lib.hid hrb
          have HMK := Lib.hid hmk
          clear hown0
          clear hout hform hout2 hform2 hrb hmem hm hemp hmk
          have ez : ((i : Int) == 0) = (i == 0) := by rw [Bool.eq_iff_iff]; simp
          by_cases hf : ((m.f0 == 0) == (i == 0)) = true
          · have HF2 : Hid (formOk 0 l = formOk (i + 1) (l.drop (i + 1))) := Lib.hid (by rw [HFORM.out, hf, Bool.true_and])
            obtain ⟨Ao, co, rfl⟩ := HMK.out.slice
            have hmod1 : m.f0 % 256 = m.f0 := by omega
            have hmod2 : (m.f0 + 128) % 256 = m.f0 + 128 := by omega
            by_cases hz : m.f0 = 0
            · have q1 : (m.f0 == 0) = true := by rw [beq_iff_eq]; exact hz
              have q2 : ¬ (0 < (i : Int)) := by
                intro h
                rw [q1, show (i == 0) = false by rw [beq_eq_false_iff_ne]; omega] at hf
                exact absurd hf (by decide)
              have q3 : (m.f0 != 0) = false := by rw [bne, q1]; rfl
              obtain rfl : i = 0 := by omega
              have e0 : ad.add (0 * 2) = ad := by simp [Addr.add]
              rw [e0] at hx0 hx1 HX1
              clear hf HFORM ez hz q2 e0
              by_cases hla : 0 + 1 = l.length
              · have hlb2 : ((0 : Int) == (l.length : Int) - 1) = true := by rw [beq_iff_eq]; omega
                have HLA := Lib.hid hla
                clear hla
                go_wp2_with (first | (go_at_call 69; refine (number3_any m.f1.length w1 (by omega)).mono ?_; rintro e w2 ⟨v2, rfl, hown2, hbn⟩; obtain ⟨A2, c2, rfl, hr2⟩ := own_reads hown2; have HR2 := Lib.hid hr2; have HO1b := Lib.hid (own_move HO1.out (fun k hk => hbn.block k (own_lt HO1.out k hk))); have hb2 := bt hb1 hbn; clear hown2 hr2 k1) | (at_builtin; first | (refine append_marked (w0 := w) w.heap.size rfl (.tmp 68) (.tmp 71) 37 5 .u8 1 rfl Try.underlying37 info_u8 (by decide) (.slice Ao out.length co) out [m.f0 + 128] _ 1 1 rfl rfl (by decide) (HMK.out.below (ba _ _)) (reads_lit1_at _ _ _ rfl) (below_alloc hbw _) (below_alloc hbw _).size (by omega) ?_; intro v1 w1 hown1 hb1 hg1; have k1 := (HX1.out w1 hb1); have HO1 := Lib.hid hown1; clear hown1 hg1) | (refine print_append_row (w0 := w) (W := w2) w.heap.size rfl (.tmp 73) (.tmp 80) 37 5 .u8 1 rfl Try.underlying37 info_u8 (by decide) v1 (out ++ [m.f0 + 128]) [(m.f1.length : Int) / 65536, (m.f1.length : Int) / 256 % 256, (m.f1.length : Int) % 256] A2 3 c2 rfl rfl HO1b.out HR2.out hb2 hb2.size (by simp only [List.length_append, List.length_cons, List.length_nil]; omega) ?_; intro v4 w4 hown4 hb4 hg4 hat4; have k4 := (HX1.out w4 hb4); have HO4 := Lib.hid hown4; clear hown4 hg4 hat4) | (refine print_append_row (w0 := w) (W := w4) w.heap.size rfl (.tmp 82) (.tmp 87) 37 5 .u8 1 rfl Try.underlying37 info_u8 (by decide) v4 (out ++ [m.f0 + 128] ++ [(m.f1.length : Int) / 65536, (m.f1.length : Int) / 256 % 256, (m.f1.length : Int) % 256]) m.f1 A1 m.f1.length c1 rfl rfl HO4.out (HRB.out.below hb4) hb4 hb4.size (by simp only [List.length_append, List.length_cons, List.length_nil]; omega) ?_; intro v3 w3 hown3 hb3 hg3 hat3)))
                go_roundg (l.length - (0 + 1))
                case measure => omega
                case rel =>
                  refine ⟨0 + 1, _, rfl, by omega, .inl hown3, fun _ => hown3, Lib.hid ?_, HF2, ?_, hb3⟩
                  · rw [← HOUT.out, decide_eq_true HLA.out]
                    simp [headB]
                  · simp only [List.length_append, List.length_cons, List.length_nil]; omega
              · have hlb2 : ((0 : Int) == (l.length : Int) - 1) = false := by rw [beq_eq_false_iff_ne]; omega
                have HLA := Lib.hid hla
                clear hla
                go_wp2_with (first | (go_at_call 69; refine (number3_any m.f1.length w1 (by omega)).mono ?_; rintro e w2 ⟨v2, rfl, hown2, hbn⟩; obtain ⟨A2, c2, rfl, hr2⟩ := own_reads hown2; have HR2 := Lib.hid hr2; have HO1b := Lib.hid (own_move HO1.out (fun k hk => hbn.block k (own_lt HO1.out k hk))); have hb2 := bt hb1 hbn; clear hown2 hr2 k1) | (at_builtin; first | (refine append_marked (w0 := w) w.heap.size rfl (.tmp 68) (.tmp 71) 37 5 .u8 1 rfl Try.underlying37 info_u8 (by decide) (.slice Ao out.length co) out [m.f0] _ 1 1 rfl rfl (by decide) (HMK.out.below (ba _ _)) (reads_lit1_at _ _ _ rfl) (below_alloc hbw _) (below_alloc hbw _).size (by omega) ?_; intro v1 w1 hown1 hb1 hg1; have k1 := (HX1.out w1 hb1); have HO1 := Lib.hid hown1; clear hown1 hg1) | (refine print_append_row (w0 := w) (W := w2) w.heap.size rfl (.tmp 73) (.tmp 80) 37 5 .u8 1 rfl Try.underlying37 info_u8 (by decide) v1 (out ++ [m.f0]) [(m.f1.length : Int) / 65536, (m.f1.length : Int) / 256 % 256, (m.f1.length : Int) % 256] A2 3 c2 rfl rfl HO1b.out HR2.out hb2 hb2.size (by simp only [List.length_append, List.length_cons, List.length_nil]; omega) ?_; intro v4 w4 hown4 hb4 hg4 hat4; have k4 := (HX1.out w4 hb4); have HO4 := Lib.hid hown4; clear hown4 hg4 hat4) | (refine print_append_row (w0 := w) (W := w4) w.heap.size rfl (.tmp 82) (.tmp 87) 37 5 .u8 1 rfl Try.underlying37 info_u8 (by decide) v4 (out ++ [m.f0] ++ [(m.f1.length : Int) / 65536, (m.f1.length : Int) / 256 % 256, (m.f1.length : Int) % 256]) m.f1 A1 m.f1.length c1 rfl rfl HO4.out (HRB.out.below hb4) hb4 hb4.size (by simp only [List.length_append, List.length_cons, List.length_nil]; omega) ?_; intro v3 w3 hown3 hb3 hg3 hat3)))
                go_roundg (l.length - (0 + 1))
                case measure => omega
                case rel =>
                  refine ⟨0 + 1, _, rfl, by omega, .inl hown3, fun _ => hown3, Lib.hid ?_, HF2, ?_, hb3⟩
                  · rw [← HOUT.out, decide_eq_false HLA.out]
                    simp [headB]
                  · simp only [List.length_append, List.length_cons, List.length_nil]; omega
            · have q1 : (m.f0 == 0) = false := by rw [beq_eq_false_iff_ne]; exact hz
              have q3 : (m.f0 != 0) = true := by rw [bne, q1]; rfl
              have q4 : ((i : Int) == 0) = false := by
                rw [ez]
                rw [q1] at hf
                revert hf
                cases (i == 0) <;> decide
              clear hf HFORM ez hz
              by_cases hla : i + 1 = l.length
              · have hlb2 : ((i : Int) == (l.length : Int) - 1) = true := by rw [beq_iff_eq]; omega
                have HLA := Lib.hid hla
                clear hla
                go_wp2_with (first | (go_at_call 69; refine (number3_any m.f1.length w1 (by omega)).mono ?_; rintro e w2 ⟨v2, rfl, hown2, hbn⟩; obtain ⟨A2, c2, rfl, hr2⟩ := own_reads hown2; have HR2 := Lib.hid hr2; have HO1b := Lib.hid (own_move HO1.out (fun k hk => hbn.block k (own_lt HO1.out k hk))); have hb2 := bt hb1 hbn; clear hown2 hr2 k1) | (at_builtin; first | (refine append_marked (w0 := w) w.heap.size rfl (.tmp 68) (.tmp 71) 37 5 .u8 1 rfl Try.underlying37 info_u8 (by decide) (.slice Ao out.length co) out [m.f0 + 128] _ 1 1 rfl rfl (by decide) (HMK.out.below (ba _ _)) (reads_lit1_at _ _ _ rfl) (below_alloc hbw _) (below_alloc hbw _).size (by omega) ?_; intro v1 w1 hown1 hb1 hg1; have k1 := (HX1.out w1 hb1); have HO1 := Lib.hid hown1; clear hown1 hg1) | (refine print_append_row (w0 := w) (W := w2) w.heap.size rfl (.tmp 73) (.tmp 80) 37 5 .u8 1 rfl Try.underlying37 info_u8 (by decide) v1 (out ++ [m.f0 + 128]) [(m.f1.length : Int) / 65536, (m.f1.length : Int) / 256 % 256, (m.f1.length : Int) % 256] A2 3 c2 rfl rfl HO1b.out HR2.out hb2 hb2.size (by simp only [List.length_append, List.length_cons, List.length_nil]; omega) ?_; intro v4 w4 hown4 hb4 hg4 hat4; have k4 := (HX1.out w4 hb4); have HO4 := Lib.hid hown4; clear hown4 hg4 hat4) | (refine print_append_row (w0 := w) (W := w4) w.heap.size rfl (.tmp 82) (.tmp 87) 37 5 .u8 1 rfl Try.underlying37 info_u8 (by decide) v4 (out ++ [m.f0 + 128] ++ [(m.f1.length : Int) / 65536, (m.f1.length : Int) / 256 % 256, (m.f1.length : Int) % 256]) m.f1 A1 m.f1.length c1 rfl rfl HO4.out (HRB.out.below hb4) hb4 hb4.size (by simp only [List.length_append, List.length_cons, List.length_nil]; omega) ?_; intro v3 w3 hown3 hb3 hg3 hat3)))
                go_roundg (l.length - (i + 1))
                case measure => omega
                case rel =>
                  refine ⟨i + 1, _, rfl, by omega, .inl hown3, fun _ => hown3, Lib.hid ?_, HF2, ?_, hb3⟩
                  · rw [← HOUT.out, decide_eq_true HLA.out]
                    simp [headB]
                  · simp only [List.length_append, List.length_cons, List.length_nil]; omega
              · have hlb2 : ((i : Int) == (l.length : Int) - 1) = false := by rw [beq_eq_false_iff_ne]; omega
                have HLA := Lib.hid hla
                clear hla
                go_wp2_with (first | (go_at_call 69; refine (number3_any m.f1.length w1 (by omega)).mono ?_; rintro e w2 ⟨v2, rfl, hown2, hbn⟩; obtain ⟨A2, c2, rfl, hr2⟩ := own_reads hown2; have HR2 := Lib.hid hr2; have HO1b := Lib.hid (own_move HO1.out (fun k hk => hbn.block k (own_lt HO1.out k hk))); have hb2 := bt hb1 hbn; clear hown2 hr2 k1) | (at_builtin; first | (refine append_marked (w0 := w) w.heap.size rfl (.tmp 68) (.tmp 71) 37 5 .u8 1 rfl Try.underlying37 info_u8 (by decide) (.slice Ao out.length co) out [m.f0] _ 1 1 rfl rfl (by decide) (HMK.out.below (ba _ _)) (reads_lit1_at _ _ _ rfl) (below_alloc hbw _) (below_alloc hbw _).size (by omega) ?_; intro v1 w1 hown1 hb1 hg1; have k1 := (HX1.out w1 hb1); have HO1 := Lib.hid hown1; clear hown1 hg1) | (refine print_append_row (w0 := w) (W := w2) w.heap.size rfl (.tmp 73) (.tmp 80) 37 5 .u8 1 rfl Try.underlying37 info_u8 (by decide) v1 (out ++ [m.f0]) [(m.f1.length : Int) / 65536, (m.f1.length : Int) / 256 % 256, (m.f1.length : Int) % 256] A2 3 c2 rfl rfl HO1b.out HR2.out hb2 hb2.size (by simp only [List.length_append, List.length_cons, List.length_nil]; omega) ?_; intro v4 w4 hown4 hb4 hg4 hat4; have k4 := (HX1.out w4 hb4); have HO4 := Lib.hid hown4; clear hown4 hg4 hat4) | (refine print_append_row (w0 := w) (W := w4) w.heap.size rfl (.tmp 82) (.tmp 87) 37 5 .u8 1 rfl Try.underlying37 info_u8 (by decide) v4 (out ++ [m.f0] ++ [(m.f1.length : Int) / 65536, (m.f1.length : Int) / 256 % 256, (m.f1.length : Int) % 256]) m.f1 A1 m.f1.length c1 rfl rfl HO4.out (HRB.out.below hb4) hb4 hb4.size (by simp only [List.length_append, List.length_cons, List.length_nil]; omega) ?_; intro v3 w3 hown3 hb3 hg3 hat3)))
                go_roundg (l.length - (i + 1))
                case measure => omega
                case rel =>
                  refine ⟨i + 1, _, rfl, by omega, .inl hown3, fun _ => hown3, Lib.hid ?_, HF2, ?_, hb3⟩
                  · rw [← HOUT.out, decide_eq_false HLA.out]
                    simp [headB]
                  · simp only [List.length_append, List.length_cons, List.length_nil]; omega
          · have hE : packE l = 5 := by
              rw [HPE.out, HFORM.out]
              rw [if_neg]
              rw [Bool.and_eq_true]
              exact fun h => hf h.1
            have HE := Lib.hid hE
            have HB := Lib.hid (show packB l = [] by unfold packB; rw [hE]; rfl)
            by_cases hz : m.f0 = 0
            · have q1 : (m.f0 == 0) = true := by rw [beq_iff_eq]; exact hz
              have q3 : (m.f0 != 0) = false := by rw [bne, q1]; rfl
              have q2 : 0 < (i : Int) := by
                rcases Nat.eq_zero_or_pos i with h | h
                · rw [q1, show (i == 0) = true by rw [beq_iff_eq]; exact h] at hf
                  exact absurd rfl hf
                · omega
              clear hf HFORM hE ez hz
              go_wp2
              go_ret2
              exact ⟨_, ret_pair HE.out.symm, by rw [HB.out]; exact World.ownsRow_nil _ _ _ _, hbw⟩
            · have q1 : (m.f0 == 0) = false := by rw [beq_eq_false_iff_ne]; exact hz
              have q3 : (m.f0 != 0) = true := by rw [bne, q1]; rfl
              have q4 : ((i : Int) == 0) = true := by
                rw [ez]
                rw [q1] at hf
                revert hf
                cases (i == 0) <;> simp
              clear hf HFORM hE ez hz
              go_wp2
              go_ret2
              exact ⟨_, ret_pair HE.out.symm, by rw [HB.out]; exact World.ownsRow_nil _ _ _ _, hbw⟩
        · have hd : l.drop i = [] := List.drop_of_length_le (by omega)
          have hE : packE l = 0 := by
            rw [HPE.out, hform.out, hd]; rfl
          have hB : packB l = out := by
            unfold packB
            rw [if_pos hE, ← hout.out, hd, bodyB, List.append_nil]
          have HE := Lib.hid hE
          have HB := Lib.hid hB
          clear hE hB hd
          go_wp2
          go_ret2
          refine ⟨_, ret_pair HE.out.symm, ?_, hbw⟩
          rw [HB.out]
          exact hown0 (by have := n0.out; omega)
end Go.Proofs.Ytdpgojcljlfnbaa
end
