/- The contract of serinetteref18.Field. -/
import Derived.Test.YtdpgojcljlfnbaaRefText
--DEV
set_option linter.unusedVariables false
set_option linter.unusedSimpArgs false
set_option maxRecDepth 100000
namespace Go.Proofs.Ytdpgojcljlfnbaa
open Go.RowKit
open Go.Proofs.YtdpgojcljlfnbaaW.PrintWords

def fldGo : Bool → List Int → Bool
  | _, [] => false
  | pos, y :: l => if y = 61 then pos else if y < 32 ∨ 125 < y then false else fldGo true l
def rfB (s : ByteArray) : Bool := rtB s && fldGo false (bytesOf s)
theorem bytes_at (s : ByteArray) (j : Nat) (h : j < s.size) : (bytesOf s).drop j = ((s[j].toNat : Nat) : Int) :: (bytesOf s).drop (j + 1) := by
  have hl : j < (bytesOf s).length := by rw [bytesOf_length]; exact h
  rw [List.drop_eq_getElem_cons hl]
  congr 1
  simp only [bytesOf, List.getElem_map, Array.getElem_toList]
  rfl
set_option maxHeartbeats 1000000 in
theorem refField_any (s : ByteArray) (w : World) (hs : s.size ≤ 1000000000) : Calls Try.prog 23 #[.string s] w fun e w' => e = .returned (.bool (rfB s)) ∧ Below w.heap.size w w' := by
  have HC := Lib.hid (refText_any s w hs)
  have HV := Lib.hid (show rfB s = (rtB s && fldGo false (bytesOf s)) from rfl)
  go_enter Try.func23, Try.ntmps23
  go_wp2_with fail
  refine HC.out.mono ?_
  rintro e w1 ⟨rfl, hb⟩
  cases ht : rtB s
  · have HX : Hid (rfB s = false) := Lib.hid (by rw [HV.out, ht]; rfl)
    clear ht
    go_wp2
    go_ret
    exact ⟨ret_bool HX.out.symm, hb⟩
  have HX : Hid (rfB s = fldGo false (bytesOf s)) := Lib.hid (by rw [HV.out, ht]; rfl)
  clear ht
  go_wp2_with fail
  go_loopw [4] (fun i wr => Hid (∃ j : Nat, j ≤ s.size ∧ i = .int .i64 j ∧ fldGo (decide (0 < j)) ((bytesOf s).drop j) = fldGo false (bytesOf s) ∧ wr = w1)) (fun i _ => s.size - (intOf i).toNat)
  case atStart => exact Lib.hid ⟨0, Nat.zero_le _, rfl, rfl, rfl⟩
  case round =>
    obtain ⟨j, hj, rfl, hgo, rfl⟩ := hrel.out
    clear hrel
    have HG := Lib.hid hgo
    clear hgo
    by_cases hlt : j < s.size
    · have hat := bytes_at s j hlt
      have hg := HG.out
      rw [hat] at hg
      obtain ⟨y, hy⟩ : ∃ y, s[j].toNat = y := ⟨_, rfl⟩
      rw [hy] at hg
      rw [fldGo] at hg
      have HGG := Lib.hid hg
      clear hat hg
      by_cases h61 : y = 61
      · have hb61 : ((y : Int) == 61) = true := by rw [h61]; rfl
        have HR : Hid (decide (0 < j) = rfB s) := Lib.hid (by have h := HGG.out; rw [if_pos (by omega)] at h; rw [HX.out, h])
        clear h61
        go_wp2
        go_ret
        refine ⟨ret_bool (Eq.trans ?_ HR.out), hb⟩
        exact decide_eq_decide.2 (by omega)
      · have hb61 : ((y : Int) == 61) = false := by rw [beq_eq_false_iff_ne]; omega
        by_cases ho : y < 32 ∨ 125 < y
        · have HR : Hid (false = rfB s) := Lib.hid (by have h := HGG.out; rw [if_neg (by omega), if_pos (by omega)] at h; exact h.trans HX.out.symm)
          clear h61
          rcases ho with ho | ho
          all_goals
            go_wp2
            all_goals first
              | (go_ret; exact ⟨ret_bool HR.out, hb⟩)
              | (exfalso; omega)
        · have HR : Hid (fldGo (decide (0 < j + 1)) ((bytesOf s).drop (j + 1)) = fldGo false (bytesOf s)) := Lib.hid (by have h := HGG.out; rw [if_neg (by omega), if_neg (by omega)] at h; rw [decide_eq_true (Nat.succ_pos j), h])
          have h32 : 32 ≤ y := by omega
          have h125 : y ≤ 125 := by omega
          clear h61 ho
          go_wp2
          go_roundw
          case rel => exact Lib.hid ⟨j + 1, by omega, by go_num, HR.out, by first | rfl | trivial⟩
          case measure => simp [intOf] <;> omega
    · obtain rfl : j = s.size := by omega
      have HR : Hid (false = rfB s) := Lib.hid (by
        have h := HG.out
        rw [List.drop_of_length_le (by rw [bytesOf_length]; exact Nat.le_refl _)] at h
        rw [HX.out, ← h]; rfl)
      go_wp2
      go_ret
      exact ⟨ret_bool HR.out, hb⟩
end Go.Proofs.Ytdpgojcljlfnbaa
