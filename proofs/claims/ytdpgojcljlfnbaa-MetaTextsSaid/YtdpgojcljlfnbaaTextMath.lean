/- The plain law of MetaTexts: three ways to tell whether a text can be are one. -/
import Derived.Test.YtdpgojcljlfnbaaRefField
set_option linter.unusedVariables false
set_option linter.unusedSimpArgs false
set_option maxRecDepth 100000
namespace Go.Proofs.Ytdpgojcljlfnbaa
open Go.RowKit
open Go.Proofs.YtdpgojcljlfnbaaW.PrintWords

theorem get_bytes (s : ByteArray) (i k : Nat) : ((bytesOf s).drop i).getD k 0 = ((s.get! (i + k)).toNat : Int) := by
  rw [List.getD_eq_getElem?_getD, List.getElem?_drop]
  by_cases h : i + k < s.size
  · have hl : i + k < (bytesOf s).length := by rw [bytesOf_length]; exact h
    rw [List.getElem?_eq_getElem hl]
    have := get_at s (i + k) h
    rw [Nat.add_zero] at this
    rw [this]
    simp only [bytesOf, List.getElem_map, Array.getElem_toList, Option.getD_some]
    rfl
  · rw [List.getElem?_eq_none (by rw [bytesOf_length]; omega)]
    have : s.get! (i + k) = 0 := by
      show s.data[i + k]! = 0
      rw [getElem!_neg]
      · rfl
      · show ¬ i + k < s.data.size
        exact h
    rw [this]; rfl
/-- What a decoder tells of n bytes, the first four given. -/
def decN (n b0 b1 b2 b3 : Nat) : Nat × Nat :=
  if b0 < 128 then (b0, 1)
  else if b0 / 32 = 6 ∧ 1 < n ∧ b1 / 64 = 2 then (if 128 ≤ b0 % 32 * 64 + b1 % 64 then (b0 % 32 * 64 + b1 % 64, 2) else (65533, 1))
  else if b0 / 16 = 14 ∧ (1 < n ∧ b1 / 64 = 2) ∧ (2 < n ∧ b2 / 64 = 2) then
    (if 2048 ≤ b0 % 16 * 4096 + b1 % 64 * 64 + b2 % 64 ∧ (b0 % 16 * 4096 + b1 % 64 * 64 + b2 % 64 < 55296 ∨ (57344 ≤ b0 % 16 * 4096 + b1 % 64 * 64 + b2 % 64 ∧ b0 % 16 * 4096 + b1 % 64 * 64 + b2 % 64 ≤ 1114111)) then (b0 % 16 * 4096 + b1 % 64 * 64 + b2 % 64, 3) else (65533, 1))
  else if b0 / 8 = 30 ∧ (1 < n ∧ b1 / 64 = 2) ∧ (2 < n ∧ b2 / 64 = 2) ∧ (3 < n ∧ b3 / 64 = 2) then
    (if 65536 ≤ b0 % 8 * 262144 + b1 % 64 * 4096 + b2 % 64 * 64 + b3 % 64 ∧ b0 % 8 * 262144 + b1 % 64 * 4096 + b2 % 64 * 64 + b3 % 64 ≤ 1114111 then (b0 % 8 * 262144 + b1 % 64 * 4096 + b2 % 64 * 64 + b3 % 64, 4) else (65533, 1))
  else (65533, 1)
theorem ite2 {α : Type} {c d : Prop} [Decidable c] [Decidable d] {a b a' b' : α} (h : c ↔ d) (ha : a = a') (hb : b = b') : (if c then a else b) = if d then a' else b' := by
  subst ha; subst hb
  by_cases hc : c
  · rw [if_pos hc, if_pos (h.1 hc)]
  · rw [if_neg hc, if_neg (fun h' => hc (h.2 h'))]
theorem decode_decN (s : ByteArray) (i : Nat) (h : i < s.size) : Utf8.decode s i = decN (s.size - i) (s.get! (i + 0)).toNat (s.get! (i + 1)).toNat (s.get! (i + 2)).toNat (s.get! (i + 3)).toNat := by
  have e1 : (i + 1 < s.size) = (1 < s.size - i) := by rw [eq_iff_iff]; omega
  have e2 : (i + 2 < s.size) = (2 < s.size - i) := by rw [eq_iff_iff]; omega
  have e3 : (i + 3 < s.size) = (3 < s.size - i) := by rw [eq_iff_iff]; omega
  obtain ⟨b0, g0⟩ : ∃ b, (s.get! (i + 0)).toNat = b := ⟨_, rfl⟩
  obtain ⟨b1, g1⟩ : ∃ b, (s.get! (i + 1)).toNat = b := ⟨_, rfl⟩
  obtain ⟨b2, g2⟩ : ∃ b, (s.get! (i + 2)).toNat = b := ⟨_, rfl⟩
  obtain ⟨b3, g3⟩ : ∃ b, (s.get! (i + 3)).toNat = b := ⟨_, rfl⟩
  obtain ⟨n, hn⟩ : ∃ n, s.size - i = n := ⟨_, rfl⟩
  rw [hn] at e1 e2 e3
  simp only [Utf8.decode, e1, e2, e3, g0, g1, g2, g3, hn, Bool.and_eq_true, beq_iff_eq, decide_eq_true_eq, Utf8.valid, Bool.or_eq_true, Utf8.runeError, ge_iff_le]
  have q0 : b0 < 256 := by rw [← g0]; exact (s.get! (i + 0)).toNat_lt
  have q1 : b1 < 256 := by rw [← g1]; exact (s.get! (i + 1)).toNat_lt
  have q2 : b2 < 256 := by rw [← g2]; exact (s.get! (i + 2)).toNat_lt
  have q3 : b3 < 256 := by rw [← g3]; exact (s.get! (i + 3)).toNat_lt
  clear e1 e2 e3 g0 g1 g2 g3 hn h
  unfold decN
  exact ite2 Iff.rfl rfl (ite2 Iff.rfl rfl (ite2 (by omega) (ite2 (by omega) rfl rfl) (ite2 (by omega) (ite2 (by omega) rfl rfl) rfl)))
/-- The same of the document's rune. -/
def runeN (n b0 b1 b2 b3 : Nat) : Int × Int :=
  if (b0 : Int) < 128 then ((b0 : Int), 1)
  else if 194 ≤ (b0 : Int) ∧ (b0 : Int) ≤ 223 then (if n < 2 ∨ cont b1 = false then (0, 0) else runeFin (64 * (b0 - 192) + b1 - 128) 128 2)
  else if 224 ≤ (b0 : Int) ∧ (b0 : Int) ≤ 239 then (if n < 3 ∨ cont b1 = false ∨ cont b2 = false then (0, 0) else runeFin (64 * (64 * (b0 - 224) + b1 - 128) + b2 - 128) 2048 3)
  else if 240 ≤ (b0 : Int) ∧ (b0 : Int) ≤ 244 then (if n < 4 ∨ cont b1 = false ∨ cont b2 = false ∨ cont b3 = false then (0, 0) else runeFin (64 * (64 * (64 * (b0 - 240) + b1 - 128) + b2 - 128) + b3 - 128) 65536 4)
  else (0, 0)
theorem runeI_runeN (s : ByteArray) (i : Nat) (h : i < s.size) : runeI ((bytesOf s).drop i) = runeN (s.size - i) (s.get! (i + 0)).toNat (s.get! (i + 1)).toNat (s.get! (i + 2)).toNat (s.get! (i + 3)).toNat := by
  have hl : ((bytesOf s).drop i).length = s.size - i := by rw [List.length_drop, bytesOf_length]
  unfold runeI rune2 rune3 rune4 runeN
  rw [hl, if_neg (by omega)]
  simp only [get_bytes]
theorem cont_iff (b : Nat) (h : b < 256) : cont b = false ↔ b / 64 ≠ 2 := by
  unfold cont
  rw [← Bool.not_eq_true, Bool.and_eq_true, decide_eq_true_eq, decide_eq_true_eq]
  omega
/-- How the two hang together. -/
theorem dec_rune (n b0 b1 b2 b3 : Nat) (hn : 1 ≤ n) (h0 : b0 < 256) (h1 : b1 < 256) (h2 : b2 < 256) (h3 : b3 < 256) :
    ((runeN n b0 b1 b2 b3).2 = 0 ∧ (decN n b0 b1 b2 b3) = (65533, 1) ∧ ¬(3 ≤ n ∧ b0 = 239 ∧ b1 = 191 ∧ b2 = 189)) ∨
    ((runeN n b0 b1 b2 b3).2 = ((decN n b0 b1 b2 b3).2 : Int) ∧ 1 ≤ (decN n b0 b1 b2 b3).2 ∧ (decN n b0 b1 b2 b3).2 ≤ n ∧ ((decN n b0 b1 b2 b3).1 = 65533 → 3 ≤ n ∧ b0 = 239 ∧ b1 = 191 ∧ b2 = 189)) := by
  by_cases c1 : b0 < 128
  · have hr : runeN n b0 b1 b2 b3 = ((b0 : Int), 1) := by unfold runeN; rw [if_pos (by omega)]
    have hd : decN n b0 b1 b2 b3 = (b0, 1) := by unfold decN; rw [if_pos c1]
    rw [hr, hd]
    exact .inr ⟨rfl, Nat.le_refl _, hn, fun h => by simp at h; omega⟩
  by_cases c2 : 194 ≤ b0 ∧ b0 ≤ 223
  · by_cases k : 1 < n ∧ b1 / 64 = 2
    · have hr : runeN n b0 b1 b2 b3 = (64 * ((b0 : Int) - 192) + b1 - 128, 2) := by unfold runeN; rw [if_neg (by omega), if_pos (by omega), if_neg (by rw [cont_iff _ h1]; omega)]; unfold runeFin; rw [if_neg (by omega)]
      have hd : decN n b0 b1 b2 b3 = (b0 % 32 * 64 + b1 % 64, 2) := by unfold decN; rw [if_neg c1, if_pos (by omega), if_pos (by omega)]
      rw [hr, hd]
      exact .inr ⟨rfl, by simp, by simp; omega, fun h => by simp at h; omega⟩
    · have hr : runeN n b0 b1 b2 b3 = (0, 0) := by unfold runeN; rw [if_neg (by omega), if_pos (by omega), if_pos (by rw [cont_iff _ h1]; omega)]
      have hd : decN n b0 b1 b2 b3 = (65533, 1) := by unfold decN; rw [if_neg c1, if_neg (by omega), if_neg (by omega), if_neg (by omega)]
      rw [hr, hd]
      exact .inl ⟨rfl, rfl, by omega⟩
  by_cases c3 : 224 ≤ b0 ∧ b0 ≤ 239
  · by_cases k : (1 < n ∧ b1 / 64 = 2) ∧ (2 < n ∧ b2 / 64 = 2)
    · by_cases f : 2048 ≤ b0 % 16 * 4096 + b1 % 64 * 64 + b2 % 64 ∧ (b0 % 16 * 4096 + b1 % 64 * 64 + b2 % 64 < 55296 ∨ (57344 ≤ b0 % 16 * 4096 + b1 % 64 * 64 + b2 % 64 ∧ b0 % 16 * 4096 + b1 % 64 * 64 + b2 % 64 ≤ 1114111))
      · have hr : runeN n b0 b1 b2 b3 = (64 * (64 * ((b0 : Int) - 224) + b1 - 128) + b2 - 128, 3) := by unfold runeN; rw [if_neg (by omega), if_neg (by omega), if_pos (by omega), if_neg (by rw [cont_iff _ h1, cont_iff _ h2]; omega)]; unfold runeFin; rw [if_neg (by omega)]
        have hd : decN n b0 b1 b2 b3 = (b0 % 16 * 4096 + b1 % 64 * 64 + b2 % 64, 3) := by unfold decN; rw [if_neg c1, if_neg (by omega), if_pos (by omega), if_pos f]
        rw [hr, hd]
        exact .inr ⟨rfl, by simp, by simp; omega, fun h => by simp at h; omega⟩
      · have hr : runeN n b0 b1 b2 b3 = (0, 0) := by unfold runeN; rw [if_neg (by omega), if_neg (by omega), if_pos (by omega), if_neg (by rw [cont_iff _ h1, cont_iff _ h2]; omega)]; unfold runeFin; rw [if_pos (by omega)]
        have hd : decN n b0 b1 b2 b3 = (65533, 1) := by unfold decN; rw [if_neg c1, if_neg (by omega), if_pos (by omega), if_neg f]
        rw [hr, hd]
        exact .inl ⟨rfl, rfl, by omega⟩
    · have hr : runeN n b0 b1 b2 b3 = (0, 0) := by unfold runeN; rw [if_neg (by omega), if_neg (by omega), if_pos (by omega), if_pos (by rw [cont_iff _ h1, cont_iff _ h2]; omega)]
      have hd : decN n b0 b1 b2 b3 = (65533, 1) := by unfold decN; rw [if_neg c1, if_neg (by omega), if_neg (by omega), if_neg (by omega)]
      rw [hr, hd]
      exact .inl ⟨rfl, rfl, by omega⟩
  by_cases c4 : 240 ≤ b0 ∧ b0 ≤ 244
  · by_cases k : (1 < n ∧ b1 / 64 = 2) ∧ (2 < n ∧ b2 / 64 = 2) ∧ (3 < n ∧ b3 / 64 = 2)
    · by_cases f : 65536 ≤ b0 % 8 * 262144 + b1 % 64 * 4096 + b2 % 64 * 64 + b3 % 64 ∧ b0 % 8 * 262144 + b1 % 64 * 4096 + b2 % 64 * 64 + b3 % 64 ≤ 1114111
      · have hr : runeN n b0 b1 b2 b3 = (64 * (64 * (64 * ((b0 : Int) - 240) + b1 - 128) + b2 - 128) + b3 - 128, 4) := by unfold runeN; rw [if_neg (by omega), if_neg (by omega), if_neg (by omega), if_pos (by omega), if_neg (by rw [cont_iff _ h1, cont_iff _ h2, cont_iff _ h3]; omega)]; unfold runeFin; rw [if_neg (by omega)]
        have hd : decN n b0 b1 b2 b3 = (b0 % 8 * 262144 + b1 % 64 * 4096 + b2 % 64 * 64 + b3 % 64, 4) := by unfold decN; rw [if_neg c1, if_neg (by omega), if_neg (by omega), if_pos (by omega), if_pos f]
        rw [hr, hd]
        exact .inr ⟨rfl, by simp, by simp; omega, fun h => by simp at h; omega⟩
      · have hr : runeN n b0 b1 b2 b3 = (0, 0) := by unfold runeN; rw [if_neg (by omega), if_neg (by omega), if_neg (by omega), if_pos (by omega), if_neg (by rw [cont_iff _ h1, cont_iff _ h2, cont_iff _ h3]; omega)]; unfold runeFin; rw [if_pos (by omega)]
        have hd : decN n b0 b1 b2 b3 = (65533, 1) := by unfold decN; rw [if_neg c1, if_neg (by omega), if_neg (by omega), if_pos (by omega), if_neg f]
        rw [hr, hd]
        exact .inl ⟨rfl, rfl, by omega⟩
    · have hr : runeN n b0 b1 b2 b3 = (0, 0) := by unfold runeN; rw [if_neg (by omega), if_neg (by omega), if_neg (by omega), if_pos (by omega), if_pos (by rw [cont_iff _ h1, cont_iff _ h2, cont_iff _ h3]; omega)]
      have hd : decN n b0 b1 b2 b3 = (65533, 1) := by unfold decN; rw [if_neg c1, if_neg (by omega), if_neg (by omega), if_neg (by omega)]
      rw [hr, hd]
      exact .inl ⟨rfl, rfl, by omega⟩
  have hr : runeN n b0 b1 b2 b3 = (0, 0) := by unfold runeN; rw [if_neg (by omega), if_neg (by omega), if_neg (by omega), if_neg (by omega)]
  have hd : decN n b0 b1 b2 b3 = (65533, 1) := by
    unfold decN
    rw [if_neg c1]
    by_cases d2 : b0 / 32 = 6 ∧ 1 < n ∧ b1 / 64 = 2
    · rw [if_pos d2, if_neg (by omega)]
    rw [if_neg d2, if_neg (by omega)]
    by_cases d4 : b0 / 8 = 30 ∧ (1 < n ∧ b1 / 64 = 2) ∧ (2 < n ∧ b2 / 64 = 2) ∧ (3 < n ∧ b3 / 64 = 2)
    · rw [if_pos d4, if_neg (by omega)]
    · rw [if_neg d4]
  rw [hr, hd]
  exact .inl ⟨rfl, rfl, by omega⟩
theorem extract_list (s : ByteArray) (a b : Nat) : (s.extract a b).data.toList = (s.data.toList.take b).drop a := by
  rw [Lib.extract_data, List.drop_take]
theorem list_get (s : ByteArray) (k : Nat) : s.data.toList.getD k 0 = s.get! k := by
  rw [List.getD_eq_getElem?_getD]
  by_cases h : k < s.size
  · have hl : k < s.data.toList.length := by rw [data_length]; exact h
    rw [List.getElem?_eq_getElem hl]
    have := get_at s k h
    rw [Nat.add_zero] at this
    rw [this]
    simp only [Array.getElem_toList, Option.getD_some]
    rfl
  · rw [List.getElem?_eq_none (by rw [data_length]; omega)]
    have : s.get! k = 0 := by
      show s.data[k]! = 0
      rw [getElem!_neg]
      · rfl
      · show ¬ k < s.data.size
        exact h
    rw [this]; rfl
theorem take3 (l : List UInt8) (h : 3 ≤ l.length) : l.take 3 = [l.getD 0 0, l.getD 1 0, l.getD 2 0] := by
  match l, h with
  | a :: b :: c :: t, _ => rfl
theorem pre_iff (s : ByteArray) (i : Nat) (hi : i < s.size) : hasPreB (s.extract i s.size) runeErr = true ↔ 3 ≤ s.size - i ∧ (s.get! (i + 0)).toNat = 239 ∧ (s.get! (i + 1)).toNat = 191 ∧ (s.get! (i + 2)).toNat = 189 := by
  have hsz : (s.extract i s.size).size = s.size - i := by rw [ByteArray.size_extract]; omega
  have hL : (s.extract i s.size).data.toList = s.data.toList.drop i := by rw [extract_list, List.take_of_length_le (by rw [data_length]; exact Nat.le_refl _)]
  unfold hasPreB
  rw [Bool.and_eq_true, decide_eq_true_eq, beq_iff_eq, ByteArray.toList_eq, ByteArray.toList_eq, hsz]
  have hr : runeErr.size = 3 := rfl
  rw [hr]
  refine and_congr_right fun h3 => ?_
  have hd : ((s.extract i s.size).extract 0 3).data.toList = (s.data.toList.drop i).take 3 := by rw [extract_list, hL]; rfl
  have hg : ∀ k, (s.data.toList.drop i).getD k 0 = s.get! (i + k) := fun k => by rw [← list_get, List.getD_eq_getElem?_getD, List.getElem?_drop, ← List.getD_eq_getElem?_getD]
  rw [hd, take3 _ (by rw [List.length_drop, data_length]; exact h3), hg, hg, hg]
  have he : runeErr.data.toList = [239, 191, 189] := rfl
  rw [he]
  simp only [List.cons.injEq, and_true]
  refine and_congr (by rw [← UInt8.toNat_inj]; rfl) (and_congr (by rw [← UInt8.toNat_inj]; rfl) (by rw [← UInt8.toNat_inj]; rfl))
theorem at_pos (s : ByteArray) (i : Nat) (hi : i < s.size) :
    ((runeI ((bytesOf s).drop i)).2 = 0 ∧ Utf8.decode s i = (65533, 1) ∧ badAt s i = true) ∨
    ((runeI ((bytesOf s).drop i)).2 = ((Utf8.decode s i).2 : Int) ∧ 1 ≤ (Utf8.decode s i).2 ∧ i + (Utf8.decode s i).2 ≤ s.size ∧ badAt s i = false) := by
  have hb : ∀ k, (s.get! (i + k)).toNat < 256 := fun k => (s.get! (i + k)).toNat_lt
  have h := dec_rune (s.size - i) _ _ _ _ (by omega) (hb 0) (hb 1) (hb 2) (hb 3)
  rw [← runeI_runeN s i hi, ← decode_decN s i hi] at h
  rcases h with ⟨h1, h2, h3⟩ | ⟨h1, h2, h3, h4⟩
  · refine .inl ⟨h1, h2, ?_⟩
    unfold badAt
    rw [h2]
    rw [Bool.and_eq_true]
    refine ⟨by simp, ?_⟩
    rw [Bool.not_eq_true', ← Bool.not_eq_true, pre_iff s i hi]
    exact h3
  · refine .inr ⟨h1, h2, by omega, ?_⟩
    unfold badAt
    by_cases he : (Utf8.decode s i).1 = 65533
    · rw [(pre_iff s i hi).2 (h4 he)]; simp
    · rw [decide_eq_false he]; rfl
theorem text_same_go (s : ByteArray) (f i : Nat) (h : s.size ≤ i + f) (hi : i ≤ s.size) : textGo s f i = rtGo f ((bytesOf s).drop i) := by
  induction f generalizing i with
  | zero => rfl
  | succ f ih =>
    have hl : ((bytesOf s).drop i).length = s.size - i := by rw [List.length_drop, bytesOf_length]
    by_cases hlt : i < s.size
    · have e1 : textGo s (f + 1) i = if badAt s i then false else textGo s f (i + (Utf8.decode s i).2) := by rw [textGo, if_pos hlt]
      have e2 : rtGo (f + 1) ((bytesOf s).drop i) = if (runeI ((bytesOf s).drop i)).2 = 0 then false else rtGo f (((bytesOf s).drop i).drop (runeI ((bytesOf s).drop i)).2.toNat) := by rw [rtGo, if_neg (by rw [hl]; omega)]
      rw [e1, e2]
      rcases at_pos s i hlt with ⟨h1, h2, h3⟩ | ⟨h1, h2, h3, h4⟩
      · rw [h3, if_pos rfl, if_pos h1]
      · rw [h4, if_neg (by simp), if_neg (by omega), h1, Int.toNat_natCast, List.drop_drop]
        exact ih _ (by omega) h3
    · rw [textGo_end s _ i hlt, rtGo_nil _ _ (by rw [hl]; omega)]
theorem text_same (s : ByteArray) : textB s = rtB s := text_same_go s s.size 0 (by omega) (Nat.zero_le _)
end Go.Proofs.Ytdpgojcljlfnbaa
