import Derived.Test.YtonkkojankmhbaaDoorA
import Derived.MapFrom
namespace Go.Proofs.YtonkkojankmhbaaDoor
open Go.RowKit

theorem push_set (h : Array Obj) (o o' : Obj) : (h.push o).setIfInBounds h.size o' = h.push o' := by
  apply Array.ext_getElem?
  intro i
  rcases Nat.lt_trichotomy i h.size with hi | hi | hi
  · simp [Array.getElem?_push, Array.getElem?_setIfInBounds, Nat.ne_of_lt hi, Nat.ne_of_gt hi]
  · subst hi; simp
  · simp [Array.getElem?_push, Array.getElem?_setIfInBounds, Nat.ne_of_lt hi, Nat.ne_of_gt hi]
theorem alloc_setObj (w : World) (o o' : Obj) : ({ w.alloc o with heap := (w.alloc o).heap.setIfInBounds w.heap.size o' } : World) = w.alloc o' := by
  show ({ w with heap := (w.heap.push o).setIfInBounds w.heap.size o' } : World) = { w with heap := w.heap.push o' }
  rw [push_set]

theorem run_insert_new (w : World) (es : Array MapEntry) (clock : Nat) (k : Int) (x : Value)
    (hn : Instr.findNow (.int .i64) (.int .i64 k) es.toList 0 = some none) :
    (Instr.mapUpdate 55 (.map (some w.heap.size)) (.int .i64 k) x).run Tryd.prog (w.alloc (.map es clock)) =
      .ok () (w.alloc (.map (es.push { key := .int .i64 k, val := x, born := clock }) (clock + 1))) := by
  have hb : (w.alloc (.map es clock)).heap[w.heap.size]? = some (.map es clock) := heap_alloc_new w _
  have hk : MapKept.IsKey (.int .i64) (.int .i64 k) := by simp [MapKept.IsKey]
  simp [Instr.mapUpdate, run_underlying Tryd.underlying55, MapKept.run_getObj_map hb, MapKept.run_checkKey Tryd.underlying3 hk, MapKept.run_findKey Tryd.underlying3 hn, MapKept.run_setObj_map _ hb, Result.andThen]
  exact alloc_setObj w _ _

theorem run_find_shape (w : World) (r : Nat) (k : Int) (x : Value) (es : Array MapEntry) (clock : Nat) (j : Nat) (hb : w.heap[r]? = some (.map es clock))
    (hn : Instr.findNow (.int .i64) (.int .i64 k) es.toList 0 = some (some (j, x))) :
    (Instr.lookup 55 (.map (some r)) (.int .i64 k) true).run Tryd.prog w = .ok (.tuple #[x, .bool true]) w := by
  have hk : MapKept.IsKey (.int .i64) (.int .i64 k) := by simp [MapKept.IsKey]
  simp [Instr.lookup, run_underlying Tryd.underlying55, MapKept.run_getObj_map hb, MapKept.run_checkKey Tryd.underlying3 hk, MapKept.run_findKey Tryd.underlying3 hn, Result.andThen]
theorem zero53 (w : World) : (zeroValue 53).run Tryd.prog w = .ok (.agg #[.bool false, .bool false, .bool false, .nilFunc]) w := by kernel_rfl
theorem run_find_none (w : World) (r : Nat) (k : Int) (es : Array MapEntry) (clock : Nat) (hb : w.heap[r]? = some (.map es clock))
    (hn : Instr.findNow (.int .i64) (.int .i64 k) es.toList 0 = some none) :
    (Instr.lookup 55 (.map (some r)) (.int .i64 k) true).run Tryd.prog w = .ok (.tuple #[.agg #[.bool false, .bool false, .bool false, .nilFunc], .bool false]) w := by
  have hk : MapKept.IsKey (.int .i64) (.int .i64 k) := by simp [MapKept.IsKey]
  simp [Instr.lookup, run_underlying Tryd.underlying55, MapKept.run_getObj_map hb, MapKept.run_checkKey Tryd.underlying3 hk, MapKept.run_findKey Tryd.underlying3 hn, Result.andThen, zero53]

def shp (n : Bool) (d : Bool) (l : Bool) (f : Nat) : Value := .agg #[.bool n, .bool d, .bool l, .func (.func f) #[] #[]]
def shapesMap : Array MapEntry := #[⟨.int .i64 0, shp true false false 21, 0⟩, ⟨.int .i64 1, shp true false false 21, 1⟩, ⟨.int .i64 2, shp false true false 21, 2⟩, ⟨.int .i64 3, shp false true false 22, 3⟩,
  ⟨.int .i64 4, shp false false true 21, 4⟩, ⟨.int .i64 5, shp false false true 23, 5⟩, ⟨.int .i64 7, shp true false false 24, 6⟩]

theorem shapes_any (w : World) : Calls Tryd.prog 15 #[] w fun e w' => e = .returned (.map (some w.heap.size)) ∧ w.alloc (.map shapesMap 7) = w' := by
  have hmm := @run_makeMap Tryd.prog
  have i0 := run_insert_new w #[] 0 0 (.agg #[.bool true, .bool false, .bool false, .func (.func 21) #[] #[]]) rfl
  have i1 := run_insert_new w #[⟨.int .i64 0, .agg #[.bool true, .bool false, .bool false, .func (.func 21) #[] #[]], 0⟩] 1 1 (.agg #[.bool true, .bool false, .bool false, .func (.func 21) #[] #[]]) rfl
  have i2 := run_insert_new w #[⟨.int .i64 0, .agg #[.bool true, .bool false, .bool false, .func (.func 21) #[] #[]], 0⟩, ⟨.int .i64 1, .agg #[.bool true, .bool false, .bool false, .func (.func 21) #[] #[]], 1⟩] 2 2 (.agg #[.bool false, .bool true, .bool false, .func (.func 21) #[] #[]]) rfl
  have i3 := run_insert_new w #[⟨.int .i64 0, .agg #[.bool true, .bool false, .bool false, .func (.func 21) #[] #[]], 0⟩, ⟨.int .i64 1, .agg #[.bool true, .bool false, .bool false, .func (.func 21) #[] #[]], 1⟩, ⟨.int .i64 2, .agg #[.bool false, .bool true, .bool false, .func (.func 21) #[] #[]], 2⟩] 3 3 (.agg #[.bool false, .bool true, .bool false, .func (.func 22) #[] #[]]) rfl
  have i4 := run_insert_new w #[⟨.int .i64 0, .agg #[.bool true, .bool false, .bool false, .func (.func 21) #[] #[]], 0⟩, ⟨.int .i64 1, .agg #[.bool true, .bool false, .bool false, .func (.func 21) #[] #[]], 1⟩, ⟨.int .i64 2, .agg #[.bool false, .bool true, .bool false, .func (.func 21) #[] #[]], 2⟩, ⟨.int .i64 3, .agg #[.bool false, .bool true, .bool false, .func (.func 22) #[] #[]], 3⟩] 4 4 (.agg #[.bool false, .bool false, .bool true, .func (.func 21) #[] #[]]) rfl
  have i5 := run_insert_new w #[⟨.int .i64 0, .agg #[.bool true, .bool false, .bool false, .func (.func 21) #[] #[]], 0⟩, ⟨.int .i64 1, .agg #[.bool true, .bool false, .bool false, .func (.func 21) #[] #[]], 1⟩, ⟨.int .i64 2, .agg #[.bool false, .bool true, .bool false, .func (.func 21) #[] #[]], 2⟩, ⟨.int .i64 3, .agg #[.bool false, .bool true, .bool false, .func (.func 22) #[] #[]], 3⟩, ⟨.int .i64 4, .agg #[.bool false, .bool false, .bool true, .func (.func 21) #[] #[]], 4⟩] 5 5 (.agg #[.bool false, .bool false, .bool true, .func (.func 23) #[] #[]]) rfl
  have i6 := run_insert_new w #[⟨.int .i64 0, .agg #[.bool true, .bool false, .bool false, .func (.func 21) #[] #[]], 0⟩, ⟨.int .i64 1, .agg #[.bool true, .bool false, .bool false, .func (.func 21) #[] #[]], 1⟩, ⟨.int .i64 2, .agg #[.bool false, .bool true, .bool false, .func (.func 21) #[] #[]], 2⟩, ⟨.int .i64 3, .agg #[.bool false, .bool true, .bool false, .func (.func 22) #[] #[]], 3⟩, ⟨.int .i64 4, .agg #[.bool false, .bool false, .bool true, .func (.func 21) #[] #[]], 4⟩, ⟨.int .i64 5, .agg #[.bool false, .bool false, .bool true, .func (.func 23) #[] #[]], 5⟩] 6 7 (.agg #[.bool true, .bool false, .bool false, .func (.func 24) #[] #[]]) rfl
  simp only [List.push_toArray, List.nil_append, List.cons_append, Nat.zero_add, Nat.reduceAdd] at i0 i1 i2 i3 i4 i5 i6
  go_enter Tryd.func15, Tryd.ntmps15
  go_wp2
  go_ret
  exact ⟨rfl, rfl⟩

theorem always_any (v : Value) (w : World) : Calls Tryd.prog 21 #[v] w fun e w' => e = .returned (.bool true) ∧ w = w' := by
  go_enter Tryd.func21, Tryd.ntmps21
  go_wp2
  go_ret
  exact ⟨rfl, rfl⟩
theorem even_any (g o n : Nat) (a : Option Addr) (c : Nat) (w : World) (hc : w.cell? ⟨g, o + 3, none⟩ = some (.slice a n c)) :
    Calls Tryd.prog 23 #[.pointer (some ⟨g, o, none⟩)] w fun e w' => e = .returned (.bool (n % 2 == 0)) ∧ w = w' := by
  go_enter Tryd.func23, Tryd.ntmps23
  go_wp2
  go_ret
  refine ⟨?_, rfl⟩
  have e : ((n : Int) % 2 == 0) = (n % 2 == 0) := by rw [Bool.eq_iff_iff]; simp; omega
  rw [← e]; rfl
theorem simple_any (g o n : Nat) (w : World) (hc : w.cell? ⟨g, o + 1, none⟩ = some (.int .u64 n)) :
    Calls Tryd.prog 24 #[.pointer (some ⟨g, o, none⟩)] w fun e w' => e = .returned (.bool (decide (20 ≤ n) && decide (n ≤ 22))) ∧ w = w' := by
  by_cases h : (20 : Int) ≤ n
  all_goals
    go_enter Tryd.func24, Tryd.ntmps24
    go_wp2
    go_ret
    refine ⟨?_, rfl⟩
    first
      | (have e : decide ((n : Int) ≤ 22) = (decide (20 ≤ n) && decide (n ≤ 22)) := by rw [Bool.eq_iff_iff]; simp; omega
         rw [← e]; rfl)
      | (have e : false = (decide (20 ≤ n) && decide (n ≤ 22)) := by rw [Bool.eq_iff_iff]; simp; omega
         rw [← e]; rfl)
end Go.Proofs.YtonkkojankmhbaaDoor
