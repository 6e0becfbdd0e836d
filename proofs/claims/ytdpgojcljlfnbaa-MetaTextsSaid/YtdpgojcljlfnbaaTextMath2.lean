/- The plain law of MetaTexts, its second part: fields, and what runes put together are. -/
import Derived.Test.YtdpgojcljlfnbaaTextMath
import Derived.Test.YtdpgojcljlfnbaaField
set_option linter.unusedVariables false
set_option linter.unusedSimpArgs false
set_option maxRecDepth 100000
namespace Go.Proofs.Ytdpgojcljlfnbaa
open Go.RowKit
open Go.Proofs.YtdpgojcljlfnbaaW.PrintWords

def oddByte (y : Int) : Bool := decide (y < 32) || decide (125 < y)
theorem rune_odd (s : ByteArray) (f i : Nat) (h : s.size ≤ i + f) : runeGo oddRune s f i = ((bytesOf s).drop i).any oddByte := by
  induction f generalizing i with
  | zero => rw [List.drop_of_length_le (by rw [bytesOf_length]; omega)]; rfl
  | succ f ih =>
    by_cases hlt : i < s.size
    · rw [bytes_at s i hlt, List.any_cons, runeGo, if_pos hlt]
      by_cases ha : s[i].toNat < 128
      · rw [decode_ascii s i hlt ha]
        dsimp only
        rw [ih (i + 1) (by omega)]
        have : oddRune (s[i].toNat : Int) = oddByte (s[i].toNat : Int) := rfl
        rw [this]
        cases oddByte (s[i].toNat : Int) <;> rfl
      · have h1 := (decode_high s i hlt (by omega)).1
        have h2 : oddRune ((Utf8.decode s i).1 : Int) = true := by unfold oddRune; rw [decide_eq_true (p := (125 : Int) < _) (by omega)]; simp
        have h3 : oddByte (s[i].toNat : Int) = true := by unfold oddByte; rw [decide_eq_true (p := (125 : Int) < _) (by omega)]; simp
        rw [h2, h3]; rfl
    · rw [runeGo_end _ _ _ _ hlt, List.drop_of_length_le (by rw [bytesOf_length]; omega)]; rfl
theorem fld_idx (pos : Bool) (L : List UInt8) : fldGo pos (L.map fun b => (b.toNat : Int)) = (if Lib.indexByte L 61 < 0 then false else !((L.take (Lib.indexByte L 61).toNat).map fun b => (b.toNat : Int)).any oddByte && (decide (0 < Lib.indexByte L 61) || pos)) := by
  induction L generalizing pos with
  | nil => rfl
  | cons b l ih =>
    have hge := Lib.indexByte_ge l 61
    rw [List.map_cons, fldGo]
    by_cases hb : b = 61
    · subst hb
      have hix : Lib.indexByte (61 :: l) 61 = 0 := by unfold Lib.indexByte; rw [if_pos (by simp)]
      rw [hix]
      simp
    · have hbn : b.toNat ≠ 61 := fun h => hb (by rw [← UInt8.toNat_inj]; exact h)
      have hbb : (b == (61 : UInt8)) = false := by rw [beq_eq_false_iff_ne]; exact hb
      rw [if_neg (by omega), ih]
      by_cases hk : Lib.indexByte l 61 = -1
      · have hix : Lib.indexByte (b :: l) 61 = -1 := by unfold Lib.indexByte; rw [hbb, if_neg (by simp), hk]; rfl
        rw [hk, hix]
        simp
      · have hkb : (Lib.indexByte l 61 == -1) = false := by rw [beq_eq_false_iff_ne]; exact hk
        obtain ⟨k, hkk⟩ : ∃ k : Nat, Lib.indexByte l 61 = (k : Int) := ⟨(Lib.indexByte l 61).toNat, by omega⟩
        have hix : Lib.indexByte (b :: l) 61 = (k : Int) + 1 := by unfold Lib.indexByte; rw [hbb, if_neg (by simp), hkb, if_neg (by simp), hkk]
        rw [hix, hkk, if_neg (show ¬ ((k : Int) + 1 < 0) by omega), if_neg (show ¬ ((k : Int) < 0) by omega), Int.toNat_natCast, show ((k : Int) + 1).toNat = k + 1 from by omega, List.take_succ_cons, List.map_cons, List.any_cons]
        by_cases ho : (b.toNat : Int) < 32 ∨ 125 < (b.toNat : Int)
        · rw [if_pos ho]
          have : oddByte (b.toNat : Int) = true := by unfold oddByte; rcases ho with h | h <;> simp [h]
          rw [this]; rfl
        · rw [if_neg ho]
          have : oddByte (b.toNat : Int) = false := by unfold oddByte; rw [decide_eq_false (by omega), decide_eq_false (by omega)]; rfl
          rw [this, decide_eq_true (p := (0 : Int) < (k : Int) + 1) (by omega)]
          simp
theorem field_same (s : ByteArray) : fieldB s = rfB s := by
  unfold fieldB rfB
  rw [text_same]
  have hf := fld_idx false s.data.toList
  have hb : s.data.toList.map (fun b => (b.toNat : Int)) = bytesOf s := rfl
  rw [hb] at hf
  rw [hf]
  have he : Lib.indexByte s.data.toList 61 = eqIdx s := rfl
  rw [he]
  by_cases h0 : eqIdx s < 0
  · rw [if_pos h0, decide_eq_false (by omega)]
    simp
  · rw [if_neg h0]
    obtain ⟨k, hk⟩ : ∃ k : Nat, eqIdx s = (k : Int) := ⟨(eqIdx s).toNat, by omega⟩
    rw [hk, Int.toNat_natCast]
    have hn : runeB oddRune (s.extract 0 k) = ((s.data.toList.take k).map fun b => (b.toNat : Int)).any oddByte := by
      have h1 := rune_odd (s.extract 0 k) (s.extract 0 k).size 0 (by omega)
      rw [List.drop_zero] at h1
      have h2 : bytesOf (s.extract 0 k) = (s.data.toList.take k).map fun b => (b.toNat : Int) := by
        unfold bytesOf
        rw [extract_list, List.drop_zero]
      rw [h2] at h1
      exact h1
    rw [hn]
    cases rtB s <;> cases decide (0 < (k : Int)) <;> simp
/-- What a text's runes are, put together. -/
def agGo (s : ByteArray) : Nat → Nat → List UInt8
  | 0, _ => []
  | f + 1, i => if i < s.size then (Utf8.encode ((Utf8.decode s i).1 : Int)).data.toList ++ agGo s f (i + (Utf8.decode s i).2) else []
theorem agGo_end (s : ByteArray) (f i : Nat) (h : ¬ i < s.size) : agGo s f i = [] := by
  cases f with
  | zero => rfl
  | succ f => rw [agGo, if_neg h]
theorem u8_of (b x : Nat) (B : UInt8) (hb : B.toNat = b) (h : x % 256 = b) : UInt8.ofNat x = B := by
  rw [← UInt8.toNat_inj, UInt8.toNat_ofNat', hb]; exact h
theorem enc_dec (n : Nat) (B0 B1 B2 B3 : UInt8) (hn : 1 ≤ n) (hg : (runeN n B0.toNat B1.toNat B2.toNat B3.toNat).2 ≠ 0) :
    (Utf8.encode ((decN n B0.toNat B1.toNat B2.toNat B3.toNat).1 : Int)).data.toList = [B0, B1, B2, B3].take (decN n B0.toNat B1.toNat B2.toNat B3.toNat).2 := by
  obtain ⟨b0, e0⟩ : ∃ b, B0.toNat = b := ⟨_, rfl⟩
  obtain ⟨b1, e1⟩ : ∃ b, B1.toNat = b := ⟨_, rfl⟩
  obtain ⟨b2, e2⟩ : ∃ b, B2.toNat = b := ⟨_, rfl⟩
  obtain ⟨b3, e3⟩ : ∃ b, B3.toNat = b := ⟨_, rfl⟩
  have h0 : b0 < 256 := by rw [← e0]; exact B0.toNat_lt
  have h1 : b1 < 256 := by rw [← e1]; exact B1.toNat_lt
  have h2 : b2 < 256 := by rw [← e2]; exact B2.toNat_lt
  have h3 : b3 < 256 := by rw [← e3]; exact B3.toNat_lt
  rw [e0, e1, e2, e3] at hg ⊢
  have valid_of : ∀ c : Nat, (c < 55296 ∨ (57344 ≤ c ∧ c ≤ 1114111)) → Utf8.valid (c : Int) = true := by
    intro c hc
    unfold Utf8.valid
    simp only [Bool.or_eq_true, Bool.and_eq_true, decide_eq_true_eq]
    omega
  by_cases c1 : b0 < 128
  · have hd : decN n b0 b1 b2 b3 = (b0, 1) := by unfold decN; rw [if_pos c1]
    rw [hd]
    unfold Utf8.encode
    rw [valid_of b0 (by omega)]
    simp only [if_true, Int.toNat_natCast, if_pos c1]
    simp [u8_of b0 b0 B0 e0 (by omega)]
  by_cases c2 : 194 ≤ b0 ∧ b0 ≤ 223
  · by_cases k : 1 < n ∧ b1 / 64 = 2
    · have hd : decN n b0 b1 b2 b3 = (b0 % 32 * 64 + b1 % 64, 2) := by unfold decN; rw [if_neg c1, if_pos (by omega), if_pos (by omega)]
      rw [hd]
      unfold Utf8.encode
      rw [valid_of _ (by omega)]
      simp only [if_true, Int.toNat_natCast]
      rw [if_neg (by omega), if_pos (by omega)]
      simp only [List.take_succ_cons, List.take_zero]
      rw [u8_of b0 _ B0 e0 (by omega), u8_of b1 _ B1 e1 (by omega)]
    · exact absurd (by unfold runeN; rw [if_neg (by omega), if_pos (by omega), if_pos (by rw [cont_iff _ h1]; omega)]) hg
  by_cases c3 : 224 ≤ b0 ∧ b0 ≤ 239
  · by_cases k : (1 < n ∧ b1 / 64 = 2) ∧ (2 < n ∧ b2 / 64 = 2)
    · by_cases f : 2048 ≤ b0 % 16 * 4096 + b1 % 64 * 64 + b2 % 64 ∧ (b0 % 16 * 4096 + b1 % 64 * 64 + b2 % 64 < 55296 ∨ (57344 ≤ b0 % 16 * 4096 + b1 % 64 * 64 + b2 % 64 ∧ b0 % 16 * 4096 + b1 % 64 * 64 + b2 % 64 ≤ 1114111))
      · have hd : decN n b0 b1 b2 b3 = (b0 % 16 * 4096 + b1 % 64 * 64 + b2 % 64, 3) := by unfold decN; rw [if_neg c1, if_neg (by omega), if_pos (by omega), if_pos f]
        rw [hd]
        unfold Utf8.encode
        rw [valid_of _ (by omega)]
        simp only [if_true, Int.toNat_natCast]
        rw [if_neg (by omega), if_neg (by omega), if_pos (by omega)]
        simp only [List.take_succ_cons, List.take_zero]
        rw [u8_of b0 _ B0 e0 (by omega), u8_of b1 _ B1 e1 (by omega), u8_of b2 _ B2 e2 (by omega)]
      · exact absurd (by unfold runeN; rw [if_neg (by omega), if_neg (by omega), if_pos (by omega), if_neg (by rw [cont_iff _ h1, cont_iff _ h2]; omega)]; unfold runeFin; rw [if_pos (by omega)]) hg
    · exact absurd (by unfold runeN; rw [if_neg (by omega), if_neg (by omega), if_pos (by omega), if_pos (by rw [cont_iff _ h1, cont_iff _ h2]; omega)]) hg
  by_cases c4 : 240 ≤ b0 ∧ b0 ≤ 244
  · by_cases k : (1 < n ∧ b1 / 64 = 2) ∧ (2 < n ∧ b2 / 64 = 2) ∧ (3 < n ∧ b3 / 64 = 2)
    · by_cases f : 65536 ≤ b0 % 8 * 262144 + b1 % 64 * 4096 + b2 % 64 * 64 + b3 % 64 ∧ b0 % 8 * 262144 + b1 % 64 * 4096 + b2 % 64 * 64 + b3 % 64 ≤ 1114111
      · have hd : decN n b0 b1 b2 b3 = (b0 % 8 * 262144 + b1 % 64 * 4096 + b2 % 64 * 64 + b3 % 64, 4) := by unfold decN; rw [if_neg c1, if_neg (by omega), if_neg (by omega), if_pos (by omega), if_pos f]
        rw [hd]
        unfold Utf8.encode
        rw [valid_of _ (by omega)]
        simp only [if_true, Int.toNat_natCast]
        rw [if_neg (by omega), if_neg (by omega), if_neg (by omega)]
        simp only [List.take_succ_cons, List.take_zero]
        rw [u8_of b0 _ B0 e0 (by omega), u8_of b1 _ B1 e1 (by omega), u8_of b2 _ B2 e2 (by omega), u8_of b3 _ B3 e3 (by omega)]
      · exact absurd (by unfold runeN; rw [if_neg (by omega), if_neg (by omega), if_neg (by omega), if_pos (by omega), if_neg (by rw [cont_iff _ h1, cont_iff _ h2, cont_iff _ h3]; omega)]; unfold runeFin; rw [if_pos (by omega)]) hg
    · exact absurd (by unfold runeN; rw [if_neg (by omega), if_neg (by omega), if_neg (by omega), if_pos (by omega), if_pos (by rw [cont_iff _ h1, cont_iff _ h2, cont_iff _ h3]; omega)]) hg
  exact absurd (by unfold runeN; rw [if_neg (by omega), if_neg (by omega), if_neg (by omega), if_neg (by omega)]) hg
theorem take_four (l : List UInt8) (k : Nat) (hk : k ≤ 4) (hl : k ≤ l.length) : [l.getD 0 0, l.getD 1 0, l.getD 2 0, l.getD 3 0].take k = l.take k := by
  match l, k, hk, hl with
  | _, 0, _, _ => rfl
  | a :: t, 1, _, _ => rfl
  | a :: b :: t, 2, _, _ => rfl
  | a :: b :: c :: t, 3, _, _ => rfl
  | a :: b :: c :: d :: t, 4, _, _ => rfl
theorem dec_four (s : ByteArray) (i : Nat) : (Utf8.decode s i).2 ≤ 4 := by
  simp only [Utf8.decode]
  repeat' split
  all_goals simp
theorem ag_iff (s : ByteArray) (f i : Nat) (h : s.size ≤ i + f) (hi : i ≤ s.size) : textGo s f i = true ↔ agGo s f i = s.data.toList.drop i := by
  induction f generalizing i with
  | zero =>
    rw [List.drop_of_length_le (by rw [data_length]; omega)]
    exact ⟨fun _ => rfl, fun _ => rfl⟩
  | succ f ih =>
    by_cases hlt : i < s.size
    · have e1 : textGo s (f + 1) i = if badAt s i then false else textGo s f (i + (Utf8.decode s i).2) := by rw [textGo, if_pos hlt]
      have e2 : agGo s (f + 1) i = (Utf8.encode ((Utf8.decode s i).1 : Int)).data.toList ++ agGo s f (i + (Utf8.decode s i).2) := by rw [agGo, if_pos hlt]
      have hg : ∀ k, (s.data.toList.drop i).getD k 0 = s.get! (i + k) := fun k => by rw [← list_get, List.getD_eq_getElem?_getD, List.getElem?_drop, ← List.getD_eq_getElem?_getD]
      rw [e1, e2]
      rcases at_pos s i hlt with ⟨h1, h2, h3⟩ | ⟨h1, h2, h3, h4⟩
      · rw [h3, if_pos rfl, h2]
        refine ⟨(fun h => by cases h), fun he => ?_⟩
        have hen : (Utf8.encode (((65533, 1) : Nat × Nat).1 : Int)).data.toList = [239, 191, 189] := rfl
        rw [hen] at he
        have hlen := congrArg List.length he
        rw [List.length_append, List.length_drop, data_length] at hlen
        simp only [List.length_cons, List.length_nil] at hlen
        have h0 := hg 0; have h1' := hg 1; have h2' := hg 2
        rw [← he] at h0 h1' h2'
        have hbad : badAt s i = false := by
          unfold badAt
          rw [(pre_iff s i hlt).2 ⟨by omega, by rw [← h0]; rfl, by rw [← h1']; rfl, by rw [← h2']; rfl⟩]
          simp
        rw [hbad] at h3
        cases h3
      · rw [h4, if_neg (by simp), ih _ (by omega) h3]
        have hen : (Utf8.encode ((Utf8.decode s i).1 : Int)).data.toList = (s.data.toList.drop i).take (Utf8.decode s i).2 := by
          have hr : (runeN (s.size - i) (s.get! (i + 0)).toNat (s.get! (i + 1)).toNat (s.get! (i + 2)).toNat (s.get! (i + 3)).toNat).2 ≠ 0 := by rw [← runeI_runeN s i hlt, h1]; omega
          have he := enc_dec (s.size - i) (s.get! (i + 0)) (s.get! (i + 1)) (s.get! (i + 2)) (s.get! (i + 3)) (by omega) hr
          rw [← decode_decN s i hlt] at he
          rw [he, ← hg, ← hg, ← hg, ← hg]
          exact take_four _ _ (dec_four s i) (by rw [List.length_drop, data_length]; omega)
        rw [hen]
        have hsp : s.data.toList.drop i = (s.data.toList.drop i).take (Utf8.decode s i).2 ++ s.data.toList.drop (i + (Utf8.decode s i).2) := by rw [← List.drop_drop, List.take_append_drop]
        constructor
        · intro h; rw [h]; exact hsp.symm
        · intro h
          rw [hsp] at h
          have h5 : ((s.data.toList.drop i).take (Utf8.decode s i).2 ++ s.data.toList.drop (i + (Utf8.decode s i).2)).take (Utf8.decode s i).2 = (s.data.toList.drop i).take (Utf8.decode s i).2 := by rw [← hsp]
          rw [h5] at h
          exact List.append_cancel_left h
    · rw [textGo_end s _ i hlt, agGo_end s _ i hlt, List.drop_of_length_le (by rw [data_length]; omega)]
      exact ⟨fun _ => rfl, fun _ => rfl⟩
theorem text_again (s : ByteArray) : textB s = decide (agGo s s.size 0 = s.data.toList) := by
  have h := ag_iff s s.size 0 (by omega) (Nat.zero_le _)
  rw [List.drop_zero] at h
  have ht : textB s = textGo s s.size 0 := rfl
  rw [ht]
  by_cases hb : textGo s s.size 0 = true
  · rw [hb, decide_eq_true (h.1 hb)]
  · rw [decide_eq_false (fun h' => hb (h.2 h'))]
    simpa using hb
end Go.Proofs.Ytdpgojcljlfnbaa
