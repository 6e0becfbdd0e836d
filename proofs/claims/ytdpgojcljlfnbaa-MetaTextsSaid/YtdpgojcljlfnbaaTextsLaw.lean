/- The walk of MetaTexts. -/
import Derived.Test.YtdpgojcljlfnbaaAwake18
import Derived.Test.YtdpgojcljlfnbaaTextMath2
import Derived.Laws.Runes

set_option linter.unusedVariables false
set_option linter.unusedSimpArgs false
set_option maxRecDepth 100000
namespace Go.Proofs.Ytdpgojcljlfnbaa
open Go.RowKit
open Go.Proofs.YtdpgojcljlfnbaaW.PrintWords

theorem byte_ext {a b : ByteArray} (h : a.data.toList = b.data.toList) : a = b := by
  have h2 : a.data = b.data := Array.toList_inj.1 h
  cases a; cases b
  exact congrArg ByteArray.mk h2
theorem enc_size (r : Int) : (Utf8.encode r).size ≤ 4 := by
  unfold Utf8.encode
  dsimp only
  repeat' split
  all_goals simp [ByteArray.size]
set_option maxHeartbeats 1000000 in
theorem Texts_walk (s : ByteArray) (w : World) :
    Calls Try.prog 5 #[.string s] w fun e w' => e = .returned (.bool true) ∧ Below w.heap.size w w' := by
  go_enter Try.func5, Try.ntmps5
  go_wp2_with fail
  refine (awake18_any w).mono ?_
  rintro e w1 ⟨rfl, hb1⟩
  by_cases hs : 100 < s.size
  · go_wp2
    go_ret
    exact ⟨rfl, hb1⟩
  have hs100 : s.size ≤ 100 := by omega
  clear hs
  go_wp2_with fail
  go_loopg [4] s.size (fun gf v wx => ∃ (pos : Nat) (B : ByteArray), v = .string B ∧ wx.heap[w1.heap.size]? = some (.stringIter s pos) ∧ Below w1.heap.size w1 wx ∧ Hid (B.data.toList ++ agGo s gf pos = agGo s s.size 0) ∧ s.size ≤ pos + gf ∧ B.size + 4 * gf ≤ 400)
  case atStart => exact ⟨0, ⟨#[]⟩, rfl, World.iter_heap w1 s 0, ba _ _, Lib.hid rfl, by omega, by show 0 + 4 * s.size ≤ 400; omega⟩
  case round =>
    obtain ⟨pos, B, rfl, hit, hbw, hag, hfu, hBs⟩ := hrel
    by_cases hps : pos < s.size
    · obtain ⟨g', rfl⟩ : ∃ g', gk = g' + 1 := ⟨gk - 1, by omega⟩
      have hnx : ∀ ty, (Instr.next (.pointer (some ⟨w1.heap.size, 0, none⟩)) true ty).run Try.prog wr = _ := fun ty => Lib.run_next_any_at wr w1.heap.size s pos ty hit hps
      have hwd := dec_pos s pos
      have hlf := hag.out
      simp only [agGo, hps, if_true] at hlf
      obtain ⟨R, hR⟩ : ∃ R, (Utf8.decode s pos).1 = R := ⟨_, rfl⟩
      obtain ⟨K, hK⟩ : ∃ K, (Utf8.decode s pos).2 = K := ⟨_, rfl⟩
      rw [hK, hR] at hlf
      rw [hR, hK] at hnx
      rw [hK] at hwd
      have hit2 := Lib.iterAt_heap wr w1.heap.size s pos (pos + K) hit
      have hbw2 := Lib.below_iterAt hbw (k := w1.heap.size) (Nat.le_refl _) s (pos + K)
      obtain ⟨W, hWd⟩ : ∃ W, wr.iterAt w1.heap.size s (pos + K) = W := ⟨_, rfl⟩
      rw [hWd] at hnx hit2 hbw2
      have hcv := run_convert_int_string (P := Try.prog) W 21 9 .i32 (R : Int) (by kernel_rfl) Try.underlying9
      have hE4 := enc_size (R : Int)
      obtain ⟨E, hE⟩ : ∃ E, Utf8.encode (R : Int) = E := ⟨_, rfl⟩
      rw [hE] at hcv hlf hE4
      have hadd := run_string_add_sum (P := Try.prog) W B E (by omega)
      have HLF := Lib.hid hlf
      clear hE
      clear hlf hR hK hag hWd hit hbw
      go_wp2
      go_roundg g'
      case measure => omega
      case rel =>
        refine ⟨pos + K, B ++ E, rfl, hit2, hbw2, Lib.hid ?_, by omega, ?_⟩
        · rw [ByteArray.data_append, Array.toList_append, List.append_assoc]
          exact HLF.out
        · rw [ByteArray.size_append]; omega
    · have hnx : ∀ ty, (Instr.next (.pointer (some ⟨w1.heap.size, 0, none⟩)) true ty).run Try.prog wr = _ := fun ty => Lib.run_next_end_at wr w1.heap.size s pos ty hit hps
      have hfin := hag.out
      rw [agGo_end s gk pos hps, List.append_nil] at hfin
      have heq : (B.toList == s.toList) = textB s := by
        rw [text_again, ByteArray.toList_eq, ByteArray.toList_eq, hfin, Bool.eq_iff_iff]
        simp
      have HT := Lib.hid (fun W => Text_any s W)
      have HRT := Lib.hid (fun W => refText_any s W (by omega))
      have HF := Lib.hid (fun W => Field_any s W (by omega))
      have HRF := Lib.hid (fun W => refField_any s W (by omega))
      rw [← text_same] at HRT
      rw [← field_same] at HRF
      generalize textB s = tb at *
      generalize fieldB s = fb at *
      clear hag hfin hBs hfu
      go_wp2_with fail
      refine (HT.out _).mono ?_
      rintro e w2 ⟨rfl, hb2⟩
      go_wp2_with fail
      refine (HRT.out _).mono ?_
      rintro e w3 ⟨rfl, hb3⟩
      have htt : (tb == tb) = true := by cases tb <;> rfl
      have hff : (fb == fb) = true := by cases fb <;> rfl
      go_wp2_with fail
      refine (HF.out _).mono ?_
      rintro e w4 ⟨rfl, hb4⟩
      go_wp2_with fail
      refine (HRF.out _).mono ?_
      rintro e w5 ⟨rfl, hb5⟩
      go_wp2_with fail
      refine (HT.out _).mono ?_
      rintro e w6 ⟨rfl, hb6⟩
      go_wp2
      go_ret
      exact ⟨rfl, bt hb1 (bt hbw (bt hb2 (bt hb3 (bt hb4 (bt hb5 hb6)))))⟩
end Go.Proofs.Ytdpgojcljlfnbaa
