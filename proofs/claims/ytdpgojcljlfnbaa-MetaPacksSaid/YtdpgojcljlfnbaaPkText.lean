/- Contracts of strings.HasPrefix and meta.Text; no condition but that a text has fewer than 2^63 bytes. -/
import Derived.Test.YtdpgojcljlfnbaaPkBase
import Derived.Lib.OthersKept

set_option linter.unusedVariables false
set_option linter.unusedSimpArgs false
set_option maxRecDepth 100000
namespace Go.Proofs.Ytdpgojcljlfnbaa
open Go.RowKit
open Go.Proofs.YtdpgojcljlfnbaaW.PrintWords

theorem dec_pos (s : ByteArray) (i : Nat) : 1 ≤ (Utf8.decode s i).2 := by
  simp only [Utf8.decode]
  repeat' split
  all_goals simp
/-- Does a text begin with another one? -/
def hasPreB (s p : ByteArray) : Bool := decide (p.size ≤ s.size) && ((s.extract 0 p.size).toList == p.toList)
theorem liteHasPrefix_any (s p : ByteArray) (w : World) : Calls Try.prog 106 #[.string s, .string p] w fun e w' => e = .returned (.bool (hasPreB s p)) ∧ w = w' := by
  by_cases h : p.size ≤ s.size
  · have HV := Lib.hid (show hasPreB s p = ((s.extract 0 p.size).toList == p.toList) by unfold hasPreB; rw [decide_eq_true h, Bool.true_and])
    go_enter Try.func106, Try.ntmps106
    go_wp2
    go_ret
    exact ⟨ret_bool HV.out.symm, rfl⟩
  · have HV := Lib.hid (show hasPreB s p = false by unfold hasPreB; rw [decide_eq_false h, Bool.false_and])
    go_enter Try.func106, Try.ntmps106
    go_wp2
    go_ret
    exact ⟨ret_bool HV.out.symm, rfl⟩
theorem HasPrefix_any (s p : ByteArray) (w : World) : Calls Try.prog 62 #[.string s, .string p] w fun e w' => e = .returned (.bool (hasPreB s p)) ∧ w = w' := by
  go_enter Try.func62, Try.ntmps62
  go_wp2_with fail
  refine (liteHasPrefix_any s p w).mono ?_
  rintro e w' ⟨rfl, rfl⟩
  go_wp2
  go_ret
  exact ⟨rfl, rfl⟩
/-- A byte that is no rune's begin: it is told by the rune 65533, which does not stand there. -/
def runeErr : ByteArray := ⟨#[239, 191, 189]⟩
def badAt (s : ByteArray) (i : Nat) : Bool := decide ((Utf8.decode s i).1 = 65533) && !hasPreB (s.extract i s.size) runeErr
def textGo (s : ByteArray) : Nat → Nat → Bool
  | 0, _ => true
  | f + 1, i => if i < s.size then (if badAt s i then false else textGo s f (i + (Utf8.decode s i).2)) else true
/-- Can a text be? -/
def textB (s : ByteArray) : Bool := textGo s s.size 0
theorem textGo_end (s : ByteArray) (f i : Nat) (h : ¬ i < s.size) : textGo s f i = true := by
  cases f with
  | zero => rfl
  | succ f => rw [textGo, if_neg h]
set_option maxHeartbeats 1000000 in
theorem Text_any (s : ByteArray) (w : World) : Calls Try.prog 20 #[.string s] w fun e w' => e = .returned (.bool (textB s)) ∧ Below w.heap.size w w' := by
  go_enter Try.func20, Try.ntmps20
  go_wp2
  go_loopg [] s.size (fun gf wx => ∃ pos : Nat, wx.heap[w.heap.size]? = some (.stringIter s pos) ∧ Below w.heap.size w wx ∧ Hid (textGo s gf pos = textB s) ∧ s.size ≤ pos + gf)
  case atStart => exact ⟨0, World.iter_heap w s 0, ba _ _, Lib.hid rfl, by omega⟩
  case round =>
    obtain ⟨pos, hit, hbw, hleft, hfu⟩ := hrel
    by_cases hps : pos < s.size
    · obtain ⟨g', rfl⟩ : ∃ g', gk = g' + 1 := ⟨gk - 1, by omega⟩
      have hnx : ∀ ty, (Instr.next (.pointer (some ⟨w.heap.size, 0, none⟩)) true ty).run Try.prog wr = _ := fun ty => Lib.run_next_any_at wr w.heap.size s pos ty hit hps
      have hwd := dec_pos s pos
      have hlf := hleft.out
      simp only [textGo, hps, if_true] at hlf
      obtain ⟨R, hR⟩ : ∃ R, (Utf8.decode s pos).1 = R := ⟨_, rfl⟩
      obtain ⟨K, hK⟩ : ∃ K, (Utf8.decode s pos).2 = K := ⟨_, rfl⟩
      rw [hK] at hlf
      rw [hR, hK] at hnx
      rw [hK] at hwd
      have hit2 := Lib.iterAt_heap wr w.heap.size s pos (pos + K) hit
      have hbw2 := Lib.below_iterAt hbw (k := w.heap.size) (Nat.le_refl _) s (pos + K)
      obtain ⟨W, hWd⟩ : ∃ W, wr.iterAt w.heap.size s (pos + K) = W := ⟨_, rfl⟩
      rw [hWd] at hnx hit2 hbw2
      have HLF := Lib.hid hlf; have HR := Lib.hid hR
      clear hlf hR hK hleft hWd hit hbw
      by_cases hE : R = 65533
      · have hEb : ((R : Int) == 65533) = true := by rw [hE]; rfl
        have hbad : badAt s pos = !hasPreB (s.extract pos s.size) runeErr := by unfold badAt; rw [HR.out, decide_eq_true hE, Bool.true_and]
        have HBAD := Lib.hid hbad
        clear hbad hE
        go_wp2_with fail
        refine (HasPrefix_any _ _ W).mono ?_
        rintro e w' ⟨rfl, rfl⟩
        cases hb : hasPreB (s.extract pos s.size) runeErr
        · have hv : false = textB s := by have h := HLF.out; rw [HBAD.out, hb] at h; simpa using h
          have HV := Lib.hid hv
          rw [show hasPreB (s.extract pos s.size) (⟨#[239, 191, 189]⟩ : ByteArray) = false from hb]
          clear hb hv
          go_wp2
          go_ret
          exact ⟨ret_bool HV.out, hbw2⟩
        · have hv : textGo s g' (pos + K) = textB s := by have h := HLF.out; rw [HBAD.out, hb] at h; simpa using h
          have HV := Lib.hid hv
          rw [show hasPreB (s.extract pos s.size) (⟨#[239, 191, 189]⟩ : ByteArray) = true from hb]
          clear hb hv
          go_wp2
          go_roundg g'
          case measure => omega
          case rel => exact ⟨pos + K, hit2, hbw2, HV, by omega⟩
      · have hEb : ((R : Int) == 65533) = false := by rw [beq_eq_false_iff_ne]; omega
        have hbad : badAt s pos = false := by unfold badAt; rw [HR.out, decide_eq_false hE, Bool.false_and]
        have HV : Hid (textGo s g' (pos + K) = textB s) := Lib.hid (by have h := HLF.out; rw [hbad] at h; simpa using h)
        clear hbad hE
        go_wp2
        go_roundg g'
        case measure => omega
        case rel => exact ⟨pos + K, hit2, hbw2, HV, by omega⟩
    · have hnx : ∀ ty, (Instr.next (.pointer (some ⟨w.heap.size, 0, none⟩)) true ty).run Try.prog wr = _ := fun ty => Lib.run_next_end_at wr w.heap.size s pos ty hit hps
      have HV := Lib.hid ((textGo_end s gk pos hps).symm.trans hleft.out)
      clear hleft
      go_wp2
      go_ret
      exact ⟨ret_bool HV.out, hbw⟩
end Go.Proofs.Ytdpgojcljlfnbaa
