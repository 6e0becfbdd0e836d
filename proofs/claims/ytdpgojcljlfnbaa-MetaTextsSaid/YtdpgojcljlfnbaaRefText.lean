/- Contracts of serinetteref18.Rune, Text, Field. -/
import Derived.Test.YtdpgojcljlfnbaaRune
--DEV
set_option linter.unusedVariables false
set_option linter.unusedSimpArgs false
set_option maxRecDepth 100000
namespace Go.Proofs.Ytdpgojcljlfnbaa
open Go.RowKit
open Go.Proofs.YtdpgojcljlfnbaaW.PrintWords

theorem Rune_any (A : Option Addr) (c : Nat) (ys : List Int) (w : World) (hr : ReadsInt w .u8 A ys.length ys) (hy : IsByte ys) :
    Calls Try.prog 63 #[.slice A ys.length c] w fun e w' => e = .returned (.tuple #[.int .i64 (runeI ys).1, .int .i64 (runeI ys).2]) ∧ w = w' := by
  by_cases h0 : ys.length = 0
  · have HV := Lib.hid (show runeI ys = (0, 0) by unfold runeI; rw [if_pos h0])
    have hz : ((ys.length : Int) == 0) = true := by rw [h0]; rfl
    clear hr hy h0
    go_enter Try.func63, Try.ntmps63
    go_wp2
    go_ret2
    exact ⟨ret_two_eq HV.out, rfl⟩
  obtain ⟨ad, rfl, _⟩ := hr.2.2 (by omega)
  have hp : 0 < ys.length := by omega
  by_cases c2 : 194 ≤ ys.getD 0 0 ∧ ys.getD 0 0 ≤ 223
  · have hv : runeI ys = rune2 ys := by unfold runeI; rw [if_neg h0, if_neg (by omega), if_pos c2]
    rw [hv]; exact rune2_any ad c ys w hr hy hp c2.1 c2.2
  by_cases c3 : 224 ≤ ys.getD 0 0 ∧ ys.getD 0 0 ≤ 239
  · have hv : runeI ys = rune3 ys := by unfold runeI; rw [if_neg h0, if_neg (by omega), if_neg c2, if_pos c3]
    rw [hv]; exact rune3_any ad c ys w hr hy hp c3.1 c3.2
  by_cases c4 : 240 ≤ ys.getD 0 0 ∧ ys.getD 0 0 ≤ 244
  · have hv : runeI ys = rune4 ys := by unfold runeI; rw [if_neg h0, if_neg (by omega), if_neg c2, if_neg c3, if_pos c4]
    rw [hv]; exact rune4_any ad c ys w hr hy hp c4.1 c4.2
  have q0 := cell_at hr 0 hp
  have q0 : w.cell? ad = some (.int .u8 (ys.getD 0 0)) := by simpa [Addr.add] using q0
  obtain ⟨b0, eb, hb0⟩ := hy.at_ 0 hp
  have hz : ((ys.length : Int) == 0) = false := by rw [beq_eq_false_iff_ne]; omega
  have hm := hr.2.1
  by_cases c1 : ys.getD 0 0 < 128
  · have HV := Lib.hid (show runeI ys = (ys.getD 0 0, 1) by unfold runeI; rw [if_neg h0, if_pos c1])
    obtain ⟨y0, hy0⟩ : ∃ y0, ys.getD 0 0 = y0 := ⟨_, rfl⟩
    rw [hy0] at q0 eb c1 c2 c3 c4 HV
    subst eb
    clear hr hy hy0 h0 c2 c3 c4
    go_enter Try.func63, Try.ntmps63
    go_wp2
    go_ret2
    exact ⟨ret_two_eq HV.out, rfl⟩
  · have HV := Lib.hid (show runeI ys = (0, 0) by unfold runeI; rw [if_neg h0, if_neg c1, if_neg c2, if_neg c3, if_neg c4])
    obtain ⟨y0, hy0⟩ : ∃ y0, ys.getD 0 0 = y0 := ⟨_, rfl⟩
    rw [hy0] at q0 eb c1 c2 c3 c4
    subst eb
    have hc : b0 < 194 ∨ 244 < b0 := by omega
    have h128 : 128 ≤ b0 := by omega
    clear hr hy hy0 h0 c1 c2 c3 c4
    rcases hc with hc | hc
    all_goals
      go_enter Try.func63, Try.ntmps63
      go_wp2
      all_goals first
        | (go_ret2; exact ⟨ret_two_eq HV.out, rfl⟩)
        | (exfalso; omega)
theorem runeFin_sz (n least size : Int) (h : 0 ≤ size) : 0 ≤ (runeFin n least size).2 ∧ (runeFin n least size).2 ≤ size := by
  unfold runeFin
  split
  · exact ⟨Int.le_refl _, h⟩
  · exact ⟨h, Int.le_refl _⟩
theorem runeI_sz (ys : List Int) : 0 ≤ (runeI ys).2 ∧ (runeI ys).2 ≤ ys.length := by
  unfold runeI
  split
  · simp
  split
  · simp only; omega
  split
  · unfold rune2
    split
    · simp
    · have := runeFin_sz (64 * (ys.getD 0 0 - 192) + ys.getD 1 0 - 128) 128 2 (by decide); omega
  split
  · unfold rune3
    split
    · simp
    · have := runeFin_sz (64 * (64 * (ys.getD 0 0 - 224) + ys.getD 1 0 - 128) + ys.getD 2 0 - 128) 2048 3 (by decide); omega
  split
  · unfold rune4
    split
    · simp
    · have := runeFin_sz (64 * (64 * (64 * (ys.getD 0 0 - 240) + ys.getD 1 0 - 128) + ys.getD 2 0 - 128) + ys.getD 3 0 - 128) 65536 4 (by decide); omega
  · simp
def rtGo : Nat → List Int → Bool
  | 0, _ => true
  | f + 1, ys => if ys.length = 0 then true else if (runeI ys).2 = 0 then false else rtGo f (ys.drop (runeI ys).2.toNat)
def rtB (s : ByteArray) : Bool := rtGo s.size (bytesOf s)
theorem rtGo_nil (f : Nat) (ys : List Int) (h : ys.length = 0) : rtGo f ys = true := by
  cases f with
  | zero => rfl
  | succ f => rw [rtGo, if_pos h]
theorem bytesOf_byte (s : ByteArray) : IsByte (bytesOf s) := by
  intro y hy
  simp only [bytesOf, List.mem_map] at hy
  obtain ⟨b, _, rfl⟩ := hy
  have := b.toNat_lt
  omega
set_option maxHeartbeats 1000000 in
theorem refText_any (s : ByteArray) (w : World) (hs : s.size ≤ 1000000000) : Calls Try.prog 21 #[.string s] w fun e w' => e = .returned (.bool (rtB s)) ∧ Below w.heap.size w w' := by
  have kb := fun W => print_bytes (P := Try.prog) 9 37 5 Try.underlying9 Try.underlying37 Try.underlying5 s W
  go_enter Try.func21, Try.ntmps21
  go_wp2
  have hrd := bytes_reads w 5 s (by omega)
  have hbb := bytes_below (Below.refl w.heap.size w) (Nat.le_refl _) 5 s
  obtain ⟨W1, hW1⟩ : ∃ W1, Lib.bytesWorld w 5 s = W1 := ⟨_, rfl⟩
  rw [hW1] at hrd hbb ⊢
  clear kb hW1
  have HRD := Lib.hid hrd; have HBB := Lib.hid hbb
  clear hrd hbb
  go_loopg [3] s.size (fun gf b wx => Hid (∃ (A : Option Addr) (c : Nat) (ys : List Int), b = .slice A ys.length c ∧ ReadsInt W1 .u8 A ys.length ys ∧ ys.length ≤ c ∧ IsByte ys ∧ wx = W1 ∧ rtGo gf ys = rtB s ∧ ys.length ≤ gf))
  case atStart => exact Lib.hid ⟨_, _, bytesOf s, by rw [bytesOf_length], by rw [bytesOf_length]; exact HRD.out, by rw [bytesOf_length]; exact grownCap_ge _ _ _ _, bytesOf_byte s, rfl, rfl, by rw [bytesOf_length]; exact Nat.le_refl _⟩
  case round =>
    obtain ⟨A, c, ys, rfl, hr, hc, hy, rfl, hgo, hlen⟩ := hrel.out
    clear hrel
    have HR := Lib.hid hr; have HY := Lib.hid hy; have HGO := Lib.hid hgo
    have hm := hr.2.1
    clear hr hy hgo
    by_cases hl : ys.length = 0
    · have HV := Lib.hid ((rtGo_nil gk ys hl).symm.trans HGO.out)
      have hd : decide ((0 : Int) < (ys.length : Int)) = false := decide_eq_false (by omega)
      have hdn : ¬ 0 < ys.length := by omega
      clear hl
      go_wp2
      go_ret
      exact ⟨ret_bool HV.out, HBB.out⟩
    · have hd : decide ((0 : Int) < (ys.length : Int)) = true := decide_eq_true (by omega)
      have hdn : 0 < ys.length := by omega
      obtain ⟨g', rfl⟩ : ∃ g', gk = g' + 1 := ⟨gk - 1, by omega⟩
      have hgo := HGO.out
      rw [rtGo, if_neg hl] at hgo
      have hsz := runeI_sz ys
      have HC := Lib.hid (Rune_any A c ys wr HR.out HY.out)
      obtain ⟨⟨rn, sz⟩, hri⟩ : ∃ p, runeI ys = p := ⟨_, rfl⟩
      rw [hri] at hgo hsz HC
      dsimp only at hgo hsz HC
      obtain ⟨k, hk⟩ : ∃ k : Nat, sz = (k : Int) := ⟨sz.toNat, by omega⟩
      subst hk
      rw [Int.toNat_natCast] at hgo
      have hkl : k ≤ ys.length := by omega
      have HG := Lib.hid hgo
      clear hl hgo hsz hri
      by_cases hk0 : k = 0
      · have hkb : ((k : Int) == 0) = true := by rw [hk0]; rfl
        have HV : Hid (false = rtB s) := Lib.hid (by have h := HG.out; rw [if_pos (by omega)] at h; exact h)
        clear hk0
        go_wp2_with fail
        refine HC.out.mono ?_
        rintro e w' ⟨rfl, rfl⟩
        go_wp2
        go_ret
        exact ⟨ret_bool HV.out, HBB.out⟩
      · have hkb : ((k : Int) == 0) = false := by rw [beq_eq_false_iff_ne]; omega
        have HV : Hid (rtGo g' (ys.drop k) = rtB s) := Lib.hid (by have h := HG.out; rw [if_neg (by omega)] at h; exact h)
        have hct := run_cut_b A ys.length c k hkl
        have hrd := HR.out.drop_ k hkl hc
        obtain ⟨X, hX⟩ : ∃ X, (if c = k then A else A.map (·.add k)) = X := ⟨_, rfl⟩
        rw [hX] at hct hrd
        have hzl : (ys.drop k).length = ys.length - k := List.length_drop
        rw [← hzl] at hrd
        have HRD2 := Lib.hid hrd; have HZL := Lib.hid hzl
        have hkp : 1 ≤ k := by omega
        clear hX hrd hzl hk0
        go_wp2_with fail
        refine HC.out.mono ?_
        rintro e w' ⟨rfl, rfl⟩
        go_wp2
        go_roundg g'
        case measure => omega
        case rel => exact Lib.hid ⟨X, c - k, ys.drop k, by rw [HZL.out], HRD2.out, by have := HZL.out; omega, HY.out.drop k, by first | rfl | trivial, HV.out, by have := HZL.out; omega⟩
end Go.Proofs.Ytdpgojcljlfnbaa
