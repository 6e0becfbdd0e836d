/- The chapter's example of layer 18. -/
import Derived.Test.YtdpgojcljlfnbaaRead
import Derived.Test.YtdpgojcljlfnbaaSame
--DEV
set_option linter.unusedVariables false
set_option linter.unusedSimpArgs false
set_option maxRecDepth 100000
namespace Go.Proofs.Ytdpgojcljlfnbaa
open Go.RowKit
open Go.Proofs.YtdpgojcljlfnbaaW.PrintWords

def exMk : ByteArray := ⟨#[109, 101]⟩
def exFs : List ByteArray := [⟨#[65, 61, 98]⟩]
def exBody : List Int := [2, 0, 0, 0, 109, 101, 1, 0, 0, 0, 3, 0, 0, 0, 65, 61, 98]
theorem ex_res : commentRes exMk exFs = (4, exBody, 0) := by kernel_rfl
theorem ex_read : readC exBody = (exMk, exFs, 0) := by kernel_rfl
theorem exBody_byte : IsByte exBody := by
  intro y hy
  simp only [exBody, List.mem_cons, List.not_mem_nil, or_false] at hy
  omega
theorem own_slice_lt {w : World} {base n : Nat} {e : TypeId} {sz : Nat} {v : Value} {xs : List Value} (h : w.ownsRow base e sz v n xs) {A : Option Addr} {m c : Nat} (hv : v = .slice A m c) : ∀ ad, A = some ad → ad.block < w.heap.size := by
  intro ad ha
  subst ha
  have := own_lt h ad.block (by rw [hv]; rfl)
  exact this
theorem own_slice_cap {w : World} {base n : Nat} {e : TypeId} {sz : Nat} {v : Value} {xs : List Value} (h : w.ownsRow base e sz v n xs) {A : Option Addr} {m c : Nat} (hv : v = .slice A m c) : m ≤ c := by
  obtain ⟨A', c', hv', hc⟩ : ∃ A' c', v = .slice A' n c' ∧ n ≤ c' := by
    rcases h.2 with ⟨h1, h2⟩ | ⟨g, cap, cur, rfl, _, _, hnc, _⟩
    · exact ⟨none, 0, by rw [h1, h2], by omega⟩
    · exact ⟨_, _, rfl, hnc⟩
  rw [hv] at hv'
  injection hv' with h1 h2 h3
  omega
theorem ex_small : ∀ f ∈ exFs, f.size ≤ 1000000 := by
  intro f hf
  have h : f = ⟨#[65, 61, 98]⟩ := by simpa [exFs] using hf
  rw [h]
  decide
set_option maxHeartbeats 2000000 in
theorem awake18_any (w : World) : Calls Try.prog 14 #[] w fun e w' => e = .returned (.bool true) ∧ Below w.heap.size w w' := by
  have t4 := yes_comment
  have hs : ReadsS (w.alloc (Obj.cells #[.string ⟨#[65, 61, 98]⟩] 9)) (some ⟨w.heap.size, 0, none⟩) 1 exFs := by
    refine ⟨rfl, by decide, fun _ => ⟨_, rfl, fun j hj => ?_⟩⟩
    obtain rfl : j = 0 := by omega
    have h := heap_alloc_new w (Obj.cells #[.string ⟨#[65, 61, 98]⟩] 9)
    exact blk_cell h 0
  have HS := Lib.hid hs
  clear hs
  go_enter Try.func14, Try.ntmps14
  go_wp2_with fail
  refine (Comment_any exMk (some ⟨w.heap.size, 0, none⟩) 1 1 exFs _ HS.out (by decide) (by decide) ex_small).mono ?_
  rw [ex_res]
  rintro e w1 ⟨v1, rfl, hown1, hb1⟩
  dsimp only at hown1 ⊢
  obtain ⟨A1, c1, hv1, hrd1⟩ := own_reads hown1
  have hcap1 := own_slice_cap hown1 hv1
  have hlt1 := own_slice_lt hown1 hv1
  subst hv1
  have hbw1 : Below w.heap.size w w1 := bt (ba w _) hb1
  obtain ⟨W2, hW2⟩ : ∃ W2, w1.alloc (Obj.cells #[.int .i64 4, .slice A1 exBody.length c1] 39) = W2 := ⟨_, rfl⟩
  have hb2 : Below w1.heap.size w1 W2 := by rw [← hW2]; exact ba _ _
  have hB2 : W2.heap[w1.heap.size]? = some (.cells #[.int .i64 4, .slice A1 exBody.length c1] 39 (0, 0)) := by rw [← hW2]; exact heap_alloc_new w1 _
  have HR2 := Lib.hid (hrd1.below hb2); have HB2 := Lib.hid hB2; have HBW2 := Lib.hid (bt hbw1 hb2); have HW2 := Lib.hid hW2
  have HLT := Lib.hid (fun ad (e : A1 = some ad) => Nat.lt_of_lt_of_le (hlt1 ad e) hb2.size)
  clear hown1 hrd1 hb1 hlt1 hbw1 hb2 hB2 hW2
  go_wp2_with fail
  rw [HW2.out]
  refine (ReadC_any A1 c1 exBody W2 HR2.out hcap1 exBody_byte HLT.out (by decide)).mono ?_
  rintro e w3 h3
  unfold ReadC at h3
  rw [ex_read] at h3
  dsimp only at h3
  obtain ⟨_, v3, rfl, hown3, hb3⟩ | ⟨h3, _⟩ := h3
  case inr => exact absurd rfl h3
  obtain ⟨A3, c3, hv3, hrd3⟩ := own_reads_of (d := ByteArray.empty) hown3
  subst hv3
  have b3 := blk_below HB2.out hb3
  have HR3 := Lib.hid (HR2.out.below hb3)
  have HBW3 := Lib.hid (bt HBW2.out hb3)
  have HB3 := Lib.hid b3
  clear hown3 hrd3 hb3 b3 hcap1
  have hmk : exMk.toList = [109, 101] := by rw [ByteArray.toList_eq]; rfl
  obtain ⟨W4, hW4⟩ : ∃ W4, w3.alloc (Obj.cells #[.string exMk, .slice A3 exFs.length c3] 49) = W4 := ⟨_, rfl⟩
  have hb4 : Below w3.heap.size w3 W4 := by rw [← hW4]; exact ba _ _
  have b4 := blk_below HB3.out hb4
  have c0 : (w3.alloc (Obj.cells #[.string exMk, .slice A3 exFs.length c3] 49)).cell? ⟨w1.heap.size, 0, none⟩ = some (.int .i64 4) := by rw [hW4]; exact blk_cell b4 0
  have c1' : (w3.alloc (Obj.cells #[.string exMk, .slice A3 exFs.length c3] 49)).cell? ⟨w1.heap.size, 1, none⟩ = some (.slice A1 exBody.length c1) := by rw [hW4]; exact blk_cell b4 1
  have HR4 := Lib.hid (HR3.out.below hb4)
  have HBW4 := Lib.hid (bt HBW3.out hb4)
  have HW4 := Lib.hid hW4; have HB4 := Lib.hid b4
  clear hb4 b4 hW4
  go_wp2_with fail
  rw [HW4.out]
  have hz4 : W4.heap.size = w3.heap.size + 1 := by rw [← HW4.out, World.size_alloc]
  have hlit := own_lit W4 W4.heap.size 5 .u8 exBody (Nat.le_refl _) (by decide)
  have hb5 : Below W4.heap.size W4 (W4.alloc (Obj.cells (nums .u8 exBody).toArray 5)) := ba _ _
  rw [hz4] at hlit
  clear c0 c1'
  refine (Same_any A1 exBody.length c1 exBody (some ⟨w3.heap.size + 1, 0, none⟩) 17 17 exBody _ (HR4.out.below hb5) (own_rd hlit rfl)).mono ?_
  rintro e w6 ⟨rfl, hb6⟩
  have b6 := blk_below (blk_below HB4.out hb5) hb6
  have c0 := blk_cell b6 0
  simp only [List.getElem?_toArray, List.getElem?_cons_zero, List.getElem?_cons_succ] at c0
  have hbw6 := bt HBW4.out (bt hb5 hb6)
  have hdt : decide (exBody = exBody) = true := decide_eq_true rfl
  rw [hdt]
  clear hlit hb5 hb6 b6 hz4 hdt
  go_wp2
  go_ret
  exact ⟨rfl, hbw6⟩
end Go.Proofs.Ytdpgojcljlfnbaa
