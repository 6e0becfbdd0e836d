/- Contracts of serinetteref18.Rune; bytes. -/
import Derived.Test.YtdpgojcljlfnbaaTexts
--DEV
set_option linter.unusedVariables false
set_option linter.unusedSimpArgs false
set_option maxRecDepth 100000
namespace Go.Proofs.Ytdpgojcljlfnbaa
open Go.RowKit
open Go.Proofs.YtdpgojcljlfnbaaW.PrintWords

def cont (y : Int) : Bool := decide (128 ≤ y) && decide (y ≤ 191)
def runeFin (n least size : Int) : Int × Int := if n < least ∨ 1114111 < n ∨ (55296 ≤ n ∧ n ≤ 57343) then (0, 0) else (n, size)
/-- The rune that bytes begin with, by its first byte. -/
def rune2 (ys : List Int) : Int × Int := if ys.length < 2 ∨ cont (ys.getD 1 0) = false then (0, 0) else runeFin (64 * (ys.getD 0 0 - 192) + ys.getD 1 0 - 128) 128 2
def rune3 (ys : List Int) : Int × Int := if ys.length < 3 ∨ cont (ys.getD 1 0) = false ∨ cont (ys.getD 2 0) = false then (0, 0) else runeFin (64 * (64 * (ys.getD 0 0 - 224) + ys.getD 1 0 - 128) + ys.getD 2 0 - 128) 2048 3
def rune4 (ys : List Int) : Int × Int := if ys.length < 4 ∨ cont (ys.getD 1 0) = false ∨ cont (ys.getD 2 0) = false ∨ cont (ys.getD 3 0) = false then (0, 0) else runeFin (64 * (64 * (64 * (ys.getD 0 0 - 240) + ys.getD 1 0 - 128) + ys.getD 2 0 - 128) + ys.getD 3 0 - 128) 65536 4
def runeI (ys : List Int) : Int × Int :=
  if ys.length = 0 then (0, 0) else if ys.getD 0 0 < 128 then (ys.getD 0 0, 1)
  else if 194 ≤ ys.getD 0 0 ∧ ys.getD 0 0 ≤ 223 then rune2 ys else if 224 ≤ ys.getD 0 0 ∧ ys.getD 0 0 ≤ 239 then rune3 ys else if 240 ≤ ys.getD 0 0 ∧ ys.getD 0 0 ≤ 244 then rune4 ys else (0, 0)
theorem cell_at {w : World} {ad : Addr} {n : Nat} {ys : List Int} (h : ReadsInt w .u8 (some ad) n ys) (i : Nat) (hi : i < n) : w.cell? (ad.add i) = some (.int .u8 (ys.getD i 0)) := by
  obtain ⟨ad', e, hc⟩ := h.2.2 (by omega)
  cases e
  exact hc i hi
theorem ret_two_eq {a b : Int} {p : Int × Int} (h : p = (a, b)) : Ending.returned (.tuple #[.int .i64 a, .int .i64 b]) = .returned (.tuple #[.int .i64 p.1, .int .i64 p.2]) := by rw [h]
set_option maxHeartbeats 2000000 in
theorem rune2_any (ad : Addr) (c : Nat) (ys : List Int) (w : World) (hr : ReadsInt w .u8 (some ad) ys.length ys) (hy : IsByte ys) (h0 : 0 < ys.length) (h1 : 194 ≤ ys.getD 0 0) (h2 : ys.getD 0 0 ≤ 223) :
    Calls Try.prog 63 #[.slice (some ad) ys.length c] w fun e w' => e = .returned (.tuple #[.int .i64 (rune2 ys).1, .int .i64 (rune2 ys).2]) ∧ w = w' := by
  have q0 := cell_at hr 0 h0
  have q0 : w.cell? ad = some (.int .u8 (ys.getD 0 0)) := by simpa [Addr.add] using q0
  have hm := hr.2.1
  by_cases hl : ys.length < 2
  · have HV := Lib.hid (show rune2 ys = (0, 0) by unfold rune2; rw [if_pos (.inl hl)])
    obtain ⟨y0, hy0⟩ : ∃ y0, ys.getD 0 0 = y0 := ⟨_, rfl⟩
    rw [hy0] at q0 h1 h2
    clear hr hy hy0
    go_enter Try.func63, Try.ntmps63
    go_wp2
    all_goals first
      | (go_ret2; exact ⟨ret_two_eq HV.out, rfl⟩)
      | (exfalso; omega)
  have q1 := cell_at hr 1 (by omega)
  have q1 : w.cell? ⟨ad.block, ad.off + 1, none⟩ = some (.int .u8 (ys.getD 1 0)) := by simpa [Addr.add] using q1
  have hb1 := hy.at_ 1 (by omega)
  have HV := Lib.hid (show rune2 ys = if cont (ys.getD 1 0) = false then (0, 0) else runeFin (64 * (ys.getD 0 0 - 192) + ys.getD 1 0 - 128) 128 2 by
    unfold rune2
    by_cases h : cont (ys.getD 1 0) = false
    · rw [if_pos (.inr h), if_pos h]
    · rw [if_neg (fun h' => h'.elim hl h), if_neg h])
  obtain ⟨y0, hy0⟩ : ∃ y0, ys.getD 0 0 = y0 := ⟨_, rfl⟩
  rw [hy0] at q0 h1 h2 HV
  obtain ⟨y1, hy1⟩ : ∃ y1, ys.getD 1 0 = y1 := ⟨_, rfl⟩
  rw [hy1] at q1 hb1 HV
  have hb1' : 0 ≤ y1 ∧ y1 < 256 := by obtain ⟨b, e, hb⟩ := hb1; omega
  have hls : 2 ≤ ys.length := by omega
  clear hr hy hy0 hy1 hb1 hl
  by_cases hc : cont y1 = false
  · have HX := Lib.hid (show rune2 ys = (0, 0) by rw [HV.out, if_pos hc])
    have hc' : y1 < 128 ∨ 191 < y1 := by unfold cont at hc; simp at hc; omega
    clear hc
    rcases hc' with hc | hc
    all_goals
      go_enter Try.func63, Try.ntmps63
      go_wp2
      refine wp_loop_rounds 3 ?_
      rw [rounds_succ]
      go_wp2
      all_goals first
        | (go_ret2; exact ⟨ret_two_eq HX.out, rfl⟩)
        | (exfalso; omega)
  have HC1 := Lib.hid hc
  have hc1 : 128 ≤ y1 ∧ y1 ≤ 191 := by unfold cont at hc; simp at hc; omega
  clear hc
  have HX := Lib.hid (show rune2 ys = runeFin (64 * (y0 - 192) + y1 - 128) 128 2 by rw [HV.out, if_neg (fun h =>  HC1.out h)])
  go_enter Try.func63, Try.ntmps63
  go_wp2
  refine wp_loop_rounds 3 ?_
  rw [rounds_succ]
  go_wp2
  rw [rounds_succ]
  go_wp2
  all_goals first
    | (go_ret2; refine ⟨ret_two_eq (HX.out.trans ?_), rfl⟩; unfold runeFin; rw [if_neg (by omega)])
    | (go_ret2; refine ⟨ret_two_eq (HX.out.trans ?_), rfl⟩; unfold runeFin; rw [if_pos (by omega)])
    | (exfalso; omega)
set_option maxHeartbeats 2000000 in
theorem rune3_any (ad : Addr) (c : Nat) (ys : List Int) (w : World) (hr : ReadsInt w .u8 (some ad) ys.length ys) (hy : IsByte ys) (h0 : 0 < ys.length) (h1 : 224 ≤ ys.getD 0 0) (h2 : ys.getD 0 0 ≤ 239) :
    Calls Try.prog 63 #[.slice (some ad) ys.length c] w fun e w' => e = .returned (.tuple #[.int .i64 (rune3 ys).1, .int .i64 (rune3 ys).2]) ∧ w = w' := by
  have q0 := cell_at hr 0 h0
  have q0 : w.cell? ad = some (.int .u8 (ys.getD 0 0)) := by simpa [Addr.add] using q0
  have hm := hr.2.1
  by_cases hl : ys.length < 3
  · have HV := Lib.hid (show rune3 ys = (0, 0) by unfold rune3; rw [if_pos (.inl hl)])
    obtain ⟨y0, hy0⟩ : ∃ y0, ys.getD 0 0 = y0 := ⟨_, rfl⟩
    rw [hy0] at q0 h1 h2
    clear hr hy hy0
    go_enter Try.func63, Try.ntmps63
    go_wp2
    all_goals first
      | (go_ret2; exact ⟨ret_two_eq HV.out, rfl⟩)
      | (exfalso; omega)
  have q1 := cell_at hr 1 (by omega)
  have q1 : w.cell? ⟨ad.block, ad.off + 1, none⟩ = some (.int .u8 (ys.getD 1 0)) := by simpa [Addr.add] using q1
  have hb1 := hy.at_ 1 (by omega)
  have q2 := cell_at hr 2 (by omega)
  have q2 : w.cell? ⟨ad.block, ad.off + 2, none⟩ = some (.int .u8 (ys.getD 2 0)) := by simpa [Addr.add] using q2
  have hb2 := hy.at_ 2 (by omega)
  have HV := Lib.hid (show rune3 ys = if cont (ys.getD 1 0) = false ∨ cont (ys.getD 2 0) = false then (0, 0) else runeFin (64 * (64 * (ys.getD 0 0 - 224) + ys.getD 1 0 - 128) + ys.getD 2 0 - 128) 2048 3 by
    unfold rune3
    by_cases h : cont (ys.getD 1 0) = false ∨ cont (ys.getD 2 0) = false
    · rw [if_pos (.inr h), if_pos h]
    · rw [if_neg (fun h' => h'.elim hl h), if_neg h])
  obtain ⟨y0, hy0⟩ : ∃ y0, ys.getD 0 0 = y0 := ⟨_, rfl⟩
  rw [hy0] at q0 h1 h2 HV
  obtain ⟨y1, hy1⟩ : ∃ y1, ys.getD 1 0 = y1 := ⟨_, rfl⟩
  rw [hy1] at q1 hb1 HV
  have hb1' : 0 ≤ y1 ∧ y1 < 256 := by obtain ⟨b, e, hb⟩ := hb1; omega
  obtain ⟨y2, hy2⟩ : ∃ y2, ys.getD 2 0 = y2 := ⟨_, rfl⟩
  rw [hy2] at q2 hb2 HV
  have hb2' : 0 ≤ y2 ∧ y2 < 256 := by obtain ⟨b, e, hb⟩ := hb2; omega
  have hls : 3 ≤ ys.length := by omega
  clear hr hy hy0 hy1 hb1 hy2 hb2 hl
  by_cases hc : cont y1 = false
  · have HX := Lib.hid (show rune3 ys = (0, 0) by rw [HV.out, if_pos (.inl hc)])
    have hc' : y1 < 128 ∨ 191 < y1 := by unfold cont at hc; simp at hc; omega
    clear hc
    rcases hc' with hc | hc
    all_goals
      go_enter Try.func63, Try.ntmps63
      go_wp2
      refine wp_loop_rounds 4 ?_
      rw [rounds_succ]
      go_wp2
      all_goals first
        | (go_ret2; exact ⟨ret_two_eq HX.out, rfl⟩)
        | (exfalso; omega)
  have HC1 := Lib.hid hc
  have hc1 : 128 ≤ y1 ∧ y1 ≤ 191 := by unfold cont at hc; simp at hc; omega
  clear hc
  by_cases hc : cont y2 = false
  · have HX := Lib.hid (show rune3 ys = (0, 0) by rw [HV.out, if_pos (.inr hc)])
    have hc' : y2 < 128 ∨ 191 < y2 := by unfold cont at hc; simp at hc; omega
    clear hc
    rcases hc' with hc | hc
    all_goals
      go_enter Try.func63, Try.ntmps63
      go_wp2
      refine wp_loop_rounds 4 ?_
      rw [rounds_succ]
      go_wp2
      rw [rounds_succ]
      go_wp2
      all_goals first
        | (go_ret2; exact ⟨ret_two_eq HX.out, rfl⟩)
        | (exfalso; omega)
  have HC2 := Lib.hid hc
  have hc2 : 128 ≤ y2 ∧ y2 ≤ 191 := by unfold cont at hc; simp at hc; omega
  clear hc
  have HX := Lib.hid (show rune3 ys = runeFin (64 * (64 * (y0 - 224) + y1 - 128) + y2 - 128) 2048 3 by rw [HV.out, if_neg (fun h => h.elim HC1.out (fun h => HC2.out h))])
  go_enter Try.func63, Try.ntmps63
  go_wp2
  refine wp_loop_rounds 4 ?_
  rw [rounds_succ]
  go_wp2
  rw [rounds_succ]
  go_wp2
  rw [rounds_succ]
  go_wp2
  all_goals first
    | (go_ret2; refine ⟨ret_two_eq (HX.out.trans ?_), rfl⟩; unfold runeFin; rw [if_neg (by omega)])
    | (go_ret2; refine ⟨ret_two_eq (HX.out.trans ?_), rfl⟩; unfold runeFin; rw [if_pos (by omega)])
    | (exfalso; omega)
set_option maxHeartbeats 2000000 in
theorem rune4_any (ad : Addr) (c : Nat) (ys : List Int) (w : World) (hr : ReadsInt w .u8 (some ad) ys.length ys) (hy : IsByte ys) (h0 : 0 < ys.length) (h1 : 240 ≤ ys.getD 0 0) (h2 : ys.getD 0 0 ≤ 244) :
    Calls Try.prog 63 #[.slice (some ad) ys.length c] w fun e w' => e = .returned (.tuple #[.int .i64 (rune4 ys).1, .int .i64 (rune4 ys).2]) ∧ w = w' := by
  have q0 := cell_at hr 0 h0
  have q0 : w.cell? ad = some (.int .u8 (ys.getD 0 0)) := by simpa [Addr.add] using q0
  have hm := hr.2.1
  by_cases hl : ys.length < 4
  · have HV := Lib.hid (show rune4 ys = (0, 0) by unfold rune4; rw [if_pos (.inl hl)])
    obtain ⟨y0, hy0⟩ : ∃ y0, ys.getD 0 0 = y0 := ⟨_, rfl⟩
    rw [hy0] at q0 h1 h2
    clear hr hy hy0
    go_enter Try.func63, Try.ntmps63
    go_wp2
    all_goals first
      | (go_ret2; exact ⟨ret_two_eq HV.out, rfl⟩)
      | (exfalso; omega)
  have q1 := cell_at hr 1 (by omega)
  have q1 : w.cell? ⟨ad.block, ad.off + 1, none⟩ = some (.int .u8 (ys.getD 1 0)) := by simpa [Addr.add] using q1
  have hb1 := hy.at_ 1 (by omega)
  have q2 := cell_at hr 2 (by omega)
  have q2 : w.cell? ⟨ad.block, ad.off + 2, none⟩ = some (.int .u8 (ys.getD 2 0)) := by simpa [Addr.add] using q2
  have hb2 := hy.at_ 2 (by omega)
  have q3 := cell_at hr 3 (by omega)
  have q3 : w.cell? ⟨ad.block, ad.off + 3, none⟩ = some (.int .u8 (ys.getD 3 0)) := by simpa [Addr.add] using q3
  have hb3 := hy.at_ 3 (by omega)
  have HV := Lib.hid (show rune4 ys = if cont (ys.getD 1 0) = false ∨ cont (ys.getD 2 0) = false ∨ cont (ys.getD 3 0) = false then (0, 0) else runeFin (64 * (64 * (64 * (ys.getD 0 0 - 240) + ys.getD 1 0 - 128) + ys.getD 2 0 - 128) + ys.getD 3 0 - 128) 65536 4 by
    unfold rune4
    by_cases h : cont (ys.getD 1 0) = false ∨ cont (ys.getD 2 0) = false ∨ cont (ys.getD 3 0) = false
    · rw [if_pos (.inr h), if_pos h]
    · rw [if_neg (fun h' => h'.elim hl h), if_neg h])
  obtain ⟨y0, hy0⟩ : ∃ y0, ys.getD 0 0 = y0 := ⟨_, rfl⟩
  rw [hy0] at q0 h1 h2 HV
  obtain ⟨y1, hy1⟩ : ∃ y1, ys.getD 1 0 = y1 := ⟨_, rfl⟩
  rw [hy1] at q1 hb1 HV
  have hb1' : 0 ≤ y1 ∧ y1 < 256 := by obtain ⟨b, e, hb⟩ := hb1; omega
  obtain ⟨y2, hy2⟩ : ∃ y2, ys.getD 2 0 = y2 := ⟨_, rfl⟩
  rw [hy2] at q2 hb2 HV
  have hb2' : 0 ≤ y2 ∧ y2 < 256 := by obtain ⟨b, e, hb⟩ := hb2; omega
  obtain ⟨y3, hy3⟩ : ∃ y3, ys.getD 3 0 = y3 := ⟨_, rfl⟩
  rw [hy3] at q3 hb3 HV
  have hb3' : 0 ≤ y3 ∧ y3 < 256 := by obtain ⟨b, e, hb⟩ := hb3; omega
  have hls : 4 ≤ ys.length := by omega
  clear hr hy hy0 hy1 hb1 hy2 hb2 hy3 hb3 hl
  by_cases hc : cont y1 = false
  · have HX := Lib.hid (show rune4 ys = (0, 0) by rw [HV.out, if_pos (.inl hc)])
    have hc' : y1 < 128 ∨ 191 < y1 := by unfold cont at hc; simp at hc; omega
    clear hc
    rcases hc' with hc | hc
    all_goals
      go_enter Try.func63, Try.ntmps63
      go_wp2
      refine wp_loop_rounds 5 ?_
      rw [rounds_succ]
      go_wp2
      all_goals first
        | (go_ret2; exact ⟨ret_two_eq HX.out, rfl⟩)
        | (exfalso; omega)
  have HC1 := Lib.hid hc
  have hc1 : 128 ≤ y1 ∧ y1 ≤ 191 := by unfold cont at hc; simp at hc; omega
  clear hc
  by_cases hc : cont y2 = false
  · have HX := Lib.hid (show rune4 ys = (0, 0) by rw [HV.out, if_pos (.inr (.inl hc))])
    have hc' : y2 < 128 ∨ 191 < y2 := by unfold cont at hc; simp at hc; omega
    clear hc
    rcases hc' with hc | hc
    all_goals
      go_enter Try.func63, Try.ntmps63
      go_wp2
      refine wp_loop_rounds 5 ?_
      rw [rounds_succ]
      go_wp2
      rw [rounds_succ]
      go_wp2
      all_goals first
        | (go_ret2; exact ⟨ret_two_eq HX.out, rfl⟩)
        | (exfalso; omega)
  have HC2 := Lib.hid hc
  have hc2 : 128 ≤ y2 ∧ y2 ≤ 191 := by unfold cont at hc; simp at hc; omega
  clear hc
  by_cases hc : cont y3 = false
  · have HX := Lib.hid (show rune4 ys = (0, 0) by rw [HV.out, if_pos (.inr (.inr hc))])
    have hc' : y3 < 128 ∨ 191 < y3 := by unfold cont at hc; simp at hc; omega
    clear hc
    rcases hc' with hc | hc
    all_goals
      go_enter Try.func63, Try.ntmps63
      go_wp2
      refine wp_loop_rounds 5 ?_
      rw [rounds_succ]
      go_wp2
      rw [rounds_succ]
      go_wp2
      rw [rounds_succ]
      go_wp2
      all_goals first
        | (go_ret2; exact ⟨ret_two_eq HX.out, rfl⟩)
        | (exfalso; omega)
  have HC3 := Lib.hid hc
  have hc3 : 128 ≤ y3 ∧ y3 ≤ 191 := by unfold cont at hc; simp at hc; omega
  clear hc
  have HX := Lib.hid (show rune4 ys = runeFin (64 * (64 * (64 * (y0 - 240) + y1 - 128) + y2 - 128) + y3 - 128) 65536 4 by rw [HV.out, if_neg (fun h => h.elim HC1.out (fun h => h.elim HC2.out (fun h => HC3.out h)))])
  go_enter Try.func63, Try.ntmps63
  go_wp2
  refine wp_loop_rounds 5 ?_
  rw [rounds_succ]
  go_wp2
  rw [rounds_succ]
  go_wp2
  rw [rounds_succ]
  go_wp2
  rw [rounds_succ]
  go_wp2
  all_goals first
    | (go_ret2; refine ⟨ret_two_eq (HX.out.trans ?_), rfl⟩; unfold runeFin; rw [if_neg (by omega)])
    | (go_ret2; refine ⟨ret_two_eq (HX.out.trans ?_), rfl⟩; unfold runeFin; rw [if_pos (by omega)])
    | (exfalso; omega)
end Go.Proofs.Ytdpgojcljlfnbaa
