/- Literals of maps keyed by numbers, and looking into them; no condition. -/
import Derived.Test.YtdpgojcljlfnbaaPkLpc
import Derived.MapKept
set_option linter.unusedVariables false
set_option linter.unusedSimpArgs false
namespace Go.Proofs.Ytdpgojcljlfnbaa
open Go.RowKit Go.MapKept
theorem set_alloc (w : World) (o o' : Obj) : ({ (w.alloc o) with heap := (w.alloc o).heap.setIfInBounds w.heap.size o' } : World) = w.alloc o' := by
  have e : (w.alloc o).heap = w.heap.push o := rfl
  rw [e]
  have h : (w.heap.push o).setIfInBounds w.heap.size o' = w.heap.push o' := by
    apply Array.ext_getElem?
    intro i
    simp only [Array.getElem?_setIfInBounds, Array.getElem?_push, Array.size_push]
    by_cases hi : i = w.heap.size
    · subst hi; simp
    · simp [hi, Ne.symm hi]
  rw [h]; rfl
/-- A literal of a map lays its keys one by one. -/
theorem run_insert_new {P : Program} {t kt et : TypeId} (ht : P.underlying t = some (.map kt et)) (hk : P.underlying kt = some (.int .i64)) (w : World) (es : Array MapEntry) (clock : Nat) (k : Int) (v : Value) (hn : Instr.findNow (.int .i64) (.int .i64 k) es.toList 0 = some none) :
    (Instr.mapUpdate t (.map (some w.heap.size)) (.int .i64 k) v).run P (w.alloc (.map es clock)) = .ok () (w.alloc (.map (es.push { key := .int .i64 k, val := v, born := clock }) (clock + 1))) := by
  have hb : (w.alloc (.map es clock)).heap[w.heap.size]? = some (.map es clock) := (MapKept.heap_alloc w _).1
  have hik : IsKey (.int .i64) (.int .i64 k) := by simp [IsKey]
  simp [Instr.mapUpdate, run_underlying ht, MapKept.run_getObj_map hb, MapKept.run_checkKey hk hik, MapKept.run_findKey hk hn, MapKept.run_setObj_map _ hb, Result.andThen]
  exact set_alloc _ _ _
theorem run_look_map {P : Program} {t kt et : TypeId} (ht : P.underlying t = some (.map kt et)) (hk : P.underlying kt = some (.int .i64)) (w : World) (r : Nat) (es : Array MapEntry) (clock : Nat) (hb : w.heap[r]? = some (.map es clock)) (k : Int) (i : Nat) (v : Value) (hn : Instr.findNow (.int .i64) (.int .i64 k) es.toList 0 = some (some (i, v))) :
    (Instr.lookup t (.map (some r)) (.int .i64 k) false).run P w = .ok v w := by
  have hik : IsKey (.int .i64) (.int .i64 k) := by simp [IsKey]
  simp [Instr.lookup, run_underlying ht, MapKept.run_getObj_map hb, MapKept.run_checkKey hk hik, MapKept.run_findKey hk hn, Result.andThen]
theorem run_look_none {P : Program} {t kt et : TypeId} (ht : P.underlying t = some (.map kt et)) (hk : P.underlying kt = some (.int .i64)) (w : World) (r : Nat) (es : Array MapEntry) (clock : Nat) (hb : w.heap[r]? = some (.map es clock)) (k : Int) (z : Value) (hz : (zeroValue et).run P w = .ok z w) (hn : Instr.findNow (.int .i64) (.int .i64 k) es.toList 0 = some none) :
    (Instr.lookup t (.map (some r)) (.int .i64 k) false).run P w = .ok z w := by
  have hik : IsKey (.int .i64) (.int .i64 k) := by simp [IsKey]
  simp [Instr.lookup, run_underlying ht, MapKept.run_getObj_map hb, MapKept.run_checkKey hk hik, MapKept.run_findKey hk hn, Result.andThen, hz]
end Go.Proofs.Ytdpgojcljlfnbaa
