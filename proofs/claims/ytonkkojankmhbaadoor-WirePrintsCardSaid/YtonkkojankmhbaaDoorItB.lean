import Derived.Test.YtonkkojankmhbaaDoorIt
import Derived.Deep.RegionHeld3
import Derived.Deep.DeepCutAuto
import Derived.Laws.EntriesVeiled
import Derived.Shelf.Abstract
namespace Go.Proofs.YtonkkojankmhbaaDoor
open Go.RowKit
open Wp (It)

theorem heap_alloc_new2 (w : World) (x y : Obj) : ((w.alloc x).alloc y).drew.heap[w.heap.size + 1]? = some y := by
  have e : w.heap.size + 1 = (w.alloc x).heap.size := by simp
  rw [e]
  exact heap_alloc_new (w.alloc x) y
theorem one_no (g o : Nat) (left deep : Int) (w : World) (hc : w.cell? ⟨g, o, none⟩ = some (.int .i64 left)) (hf : w.frozen? ⟨g, o, none⟩ = false) (hl : -4096 ≤ left) (hl2 : left ≤ 4096) (hd : left < 1 ∨ 16 < deep) :
    Calls Tryd.prog 14 #[.pointer (some ⟨g, o, none⟩), .int .i64 deep] w fun e w' => e = .panicked brokenChain ∧ w.setCell ⟨g, o, none⟩ (.int .i64 (left - 1)) = w' := by
  by_cases h1 : left < 1
  · have h0 : decide ((0 : Int) ≤ left - 1) = false := by simp; omega
    go_enter Tryd.func14, Tryd.ntmps14
    go_wp2_with (go_at_call 16; refine (must_no _).mono ?_; rintro e w' ⟨rfl, rfl⟩)
    exact ⟨rfl, rfl, rfl⟩
  · have h2 : ¬ deep ≤ 16 := by omega
    go_enter Tryd.func14, Tryd.ntmps14
    go_wp2_with (go_at_call 16; refine (must_no _).mono ?_; rintro e w' ⟨rfl, rfl⟩)
    exact ⟨rfl, rfl, rfl⟩

theorem WS.below {W W1 : World} {base bw : Nat} {left : Int} {v : Value} {bs : List UInt8} (h : WS W base bw left v bs) (hb : Below W.heap.size W W1) : WS W1 base bw left v bs := by
  refine ⟨(hb.block bw h.lt).trans h.blk, ?_, h.hb⟩
  refine ⟨h.own.1, ?_⟩
  rcases h.own.2 with h1 | ⟨g, cap, cur, e, hbg, hh, rest⟩
  · exact .inl h1
  · exact .inr ⟨g, cap, cur, e, hbg, (hb.block g (Array.getElem?_eq_some_iff.1 hh).1).trans hh, rest⟩

theorem WS.drew {W : World} {base bw : Nat} {left : Int} {v : Value} {bs : List UInt8} (h : WS W base bw left v bs) : WS W.drew base bw left v bs := ⟨h.blk, h.own.drew, h.hb⟩

theorem Adv.then_below {W W1 W2 : World} {base bw n : Nat} {v v' : Value} {xs : List Value} (h : Adv W bw v n W1 v') (hown : W.ownsRow base 5 1 v n xs) (hb : Below W1.heap.size W1 W2) : Adv W bw v n W2 v' :=
  ⟨hb.os.trans h.os, hb.tape.trans h.tape, hb.output.trans h.output, Nat.le_trans h.size hb.size, fun k hk hne ho => (hb.block k (Nat.lt_of_lt_of_le hk h.size)).trans (h.block k hk hne ho), h.at_,
    fun g j hg hj => (hb.cell (p := ⟨g, j, none⟩) (Nat.lt_of_lt_of_le (own_lt hown hg).2 h.size)).trans (h.pre g j hg hj)⟩
theorem WS.setLeft {W : World} {base bw : Nat} {left : Int} {v : Value} {bs : List UInt8} (h : WS W base bw left v bs) (x : Int) :
    WS (W.setCell ⟨bw, 0, none⟩ (.int .i64 x)) base bw x v bs ∧ Adv W bw v bs.length (W.setCell ⟨bw, 0, none⟩ (.int .i64 x)) v := by
  have hother : ∀ k, k ≠ bw → (W.setCell ⟨bw, 0, none⟩ (.int .i64 x)).heap[k]? = W.heap[k]? := fun k hk => Below.heap_setCell W ⟨bw, 0, none⟩ _ k hk
  have hvb := own_not_bw h.blk h.own
  refine ⟨⟨Blk.set_ (w := W) (g := bw) (t := 41) (cs := #[.int .i64 left, v]) h.blk 0 _, ⟨h.own.1, ?_⟩, h.hb⟩, ⟨rfl, rfl, rfl, by simp [World.setCell], fun k _ hk _ => hother k hk, .inl rfl, fun g j hg _ => cell_of_heap (hother g (fun e => hvb (by rw [hg, e])))⟩⟩
  rcases h.own.2 with h1 | ⟨g, cap, cur, e, hbg, hh, rest⟩
  · exact .inl h1
  · refine .inr ⟨g, cap, cur, e, hbg, ?_, rest⟩
    rw [hother g (fun e2 => hvb (by rw [e, e2]; rfl))]
    exact hh

theorem Adv.of_below {W W1 : World} {bw n : Nat} {v : Value} (hb : Below W.heap.size W W1) (hv : ∀ g, v.ownBlock = some g → g < W.heap.size) : Adv W bw v n W1 v :=
  ⟨hb.os, hb.tape, hb.output, hb.size, fun k hk _ _ => hb.block k hk, .inl rfl, fun g j hg _ => hb.cell (p := ⟨g, j, none⟩) (hv g hg)⟩

set_option maxRecDepth 100000 in
set_option maxHeartbeats 1000000 in
theorem item_bad_count (base bw g o : Nat) (W : World) (left deep : Int) (v : Value) (bs : List UInt8) (hw : WS W base bw left v bs) (hl : -4096 ≤ left) (hl2 : left ≤ 4096) (hd : left < 1 ∨ 16 < deep) :
    Calls Tryd.prog 10 #[.pointer (some ⟨bw, 0, none⟩), .pointer (some ⟨g, o, none⟩), .int .i64 deep] W fun e W' => e = .panicked brokenChain ∧ Adv W bw v bs.length W' v := by
  have hc0 : W.cell? ⟨bw, 0, none⟩ = some (.int .i64 left) := Blk.cell (t := 41) hw.blk 0
  have hf0 : W.frozen? ⟨bw, 0, none⟩ = false := Blk.frozen hw.blk 0
  go_enter Tryd.func10, Tryd.ntmps10
  go_wp2_with (go_at_call 14; refine (one_no _ _ _ _ _ hc0 hf0 hl hl2 hd).mono ?_; rintro e w' ⟨rfl, rfl⟩)
  exact ⟨rfl, rfl, (hw.setLeft _).2⟩


/-- what comes of the writer's item -/
def ItemPost (W : World) (base bw : Nat) (v : Value) (bs : List UInt8) (r : Option (Int × List UInt8)) (e : Ending) (W' : World) : Prop :=
  match r with
  | some (left', bs') => e = .returned (.tuple #[]) ∧ ∃ v', WS W' base bw left' v' bs' ∧ Adv W bw v bs.length W' v'
  | none => e = .panicked brokenChain ∧ ∃ v', Adv W bw v bs.length W' v'

abbrev SH (nm dt ls : Bool) (k : Int) : Prop := (nm = true ∧ dt = false ∧ ls = false ∧ (k = 0 ∨ k = 1 ∨ k = 7)) ∨ (nm = false ∧ dt = true ∧ ls = false ∧ (k = 2 ∨ k = 3)) ∨ (nm = false ∧ dt = false ∧ ls = true ∧ (k = 4 ∨ k = 5))

theorem pItem_bad {vf : List UInt8 → Bool} {k : Int} {n : Nat} {d : List UInt8} {l : List It} {deep : Nat} {left : Int} {bs : List UInt8} (h : Wp.fine vf k n d l = false) : Wp.pItem vf (.mk k n d l) deep left bs = none := by
  simp [Wp.pItem, h]
theorem pItem_num {vf : List UInt8 → Bool} {k : Int} {n : Nat} {d : List UInt8} {l : List It} {deep : Nat} {left : Int} {bs : List UInt8} (h : Wp.fine vf k n d l = true) (h1 : 1 ≤ left) (h2 : deep ≤ 16) (hk : k = 0 ∨ k = 1 ∨ k = 7) :
    Wp.pItem vf (.mk k n d l) deep left bs = if (bs ++ Wp.headB k.toNat n).length ≤ 65536 then some (left - 1, bs ++ Wp.headB k.toNat n) else none := by
  have hk' : (k == 0 || k == 1 || k == 7) = true := by simp; omega
  simp only [Wp.pItem, h, hk', if_true]
  rw [if_pos ⟨by omega, h2⟩]
theorem pItem_data {vf : List UInt8 → Bool} {k : Int} {n : Nat} {d : List UInt8} {l : List It} {deep : Nat} {left : Int} {bs : List UInt8} (h : Wp.fine vf k n d l = true) (h1 : 1 ≤ left) (h2 : deep ≤ 16) (hk : k = 2 ∨ k = 3) :
    Wp.pItem vf (.mk k n d l) deep left bs = if d.length ≤ 65536 then (if (bs ++ Wp.headB k.toNat d.length ++ d).length ≤ 65536 then some (left - 1, bs ++ Wp.headB k.toNat d.length ++ d) else none) else none := by
  have hk' : (k == 0 || k == 1 || k == 7) = false := by rcases hk with rfl | rfl <;> rfl
  have hk2 : (k == 2 || k == 3) = true := by rcases hk with rfl | rfl <;> rfl
  simp only [Wp.pItem, h, hk', hk2, if_true, Bool.false_eq_true, if_false]
  rw [if_pos ⟨by omega, h2⟩]
theorem pItem_list {vf : List UInt8 → Bool} {k : Int} {n : Nat} {d : List UInt8} {l : List It} {deep : Nat} {left : Int} {bs : List UInt8} (h : Wp.fine vf k n d l = true) (h1 : 1 ≤ left) (h2 : deep ≤ 16) (hk : k = 4 ∨ k = 5) :
    Wp.pItem vf (.mk k n d l) deep left bs = match Wp.pList vf (k == 5) 0 l (deep + 1) (left - 1) (bs ++ Wp.headB k.toNat (if k == 5 then l.length / 2 else l.length)) [] with
          | some (left, b) => if b.length ≤ 65536 then some (left, b) else none
          | none => none := by
  have hk' : (k == 0 || k == 1 || k == 7) = false := by rcases hk with rfl | rfl <;> rfl
  have hk2 : (k == 2 || k == 3) = false := by rcases hk with rfl | rfl <;> rfl
  simp only [Wp.pItem, h, hk', hk2, if_true, Bool.false_eq_true, if_false]
  rw [if_pos ⟨by omega, h2⟩]
  cases Wp.pList vf (k == 5) 0 l (deep + 1) (left - 1) (bs ++ Wp.headB k.toNat (if (k == 5) = true then l.length / 2 else l.length)) [] <;> rfl
theorem head_at (z : Int) (kind : Nat) (hz : z = (kind : Int)) (base bw n : Nat) (W : World) (left : Int) (v : Value) (bs : List UInt8) (hw : WS W base bw left v bs) (hs : base ≤ W.heap.size) (hk : kind < 8) (hn : n < 18446744073709551616) (hl : bs.length ≤ 900000) :
    Calls Tryd.prog 17 #[.pointer (some ⟨bw, 0, none⟩), .int .i64 z, .int .u64 n] W fun e W' =>
      e = .returned (.tuple #[]) ∧ ∃ v', WS W' base bw left v' (bs ++ Wp.headB kind n) ∧ Adv W bw v bs.length W' v' := by
  subst hz; exact head_any base bw kind n W left v bs hw hs hk hn hl
theorem end_bad {W W' : World} {base bw : Nat} {v v' : Value} {bs : List UInt8} {r : Option (Int × List UInt8)} (h : r = none) (ha : Adv W bw v bs.length W' v') : ItemPost W base bw v bs r (.panicked brokenChain) W' := by
  subst h; exact ⟨rfl, v', ha⟩
theorem end_good {W W' : World} {base bw : Nat} {v v' : Value} {bs bs' : List UInt8} {left' : Int} {r : Option (Int × List UInt8)} (h : r = some (left', bs')) (hw : WS W' base bw left' v' bs') (ha : Adv W bw v bs.length W' v') : ItemPost W base bw v bs r (.returned (.tuple #[])) W' := by
  subst h; exact ⟨rfl, v', hw, ha⟩


theorem one_bv (l : List UInt8) : ∀ u ∈ l.map bv, u.oneCell' = true := by
  intro u hu
  obtain ⟨b, _, rfl⟩ := List.mem_map.1 hu
  rfl
theorem u64_len (n : Nat) (h : n < 18446744073709551616) : IntKind.u64.wrap (n : Int) = (n : Int) := by
  simp only [IntKind.wrap, IntKind.bits, IntKind.signed, Bool.false_and, Bool.false_eq_true, if_false]
  omega
theorem cut_old (w : World) (x y : Obj) : ((w.alloc x).alloc y).drew.heap[w.heap.size]? = some x := (heap_alloc_old (w.alloc x) _ (by simp)).trans (heap_alloc_new w x)
theorem cut_below (w : World) (x y : Obj) : Below w.heap.size w ((w.alloc x).alloc y).drew := (((Below.refl _ w).alloc (Nat.le_refl _) x).alloc (by simp) y).drew
end Go.Proofs.YtonkkojankmhbaaDoor
