/- The writer in memory: its struct (block bw), its bytes (a row of the call's own). -/
import Derived.Test.YtonkkojankmhbaaDoorGrew
import Derived.Test.YtonkkojankmhbaaDoorB
import Derived.Test.YtonkkojankmhbaaDoorLaw
namespace Go.Proofs.YtonkkojankmhbaaDoor
open Go.RowKit

def bv (b : UInt8) : Value := .int .u8 (b.toNat : Int)

structure WS (W : World) (base bw : Nat) (left : Int) (v : Value) (bs : List UInt8) : Prop where
  blk : W.heap[bw]? = some (.cells #[.int .i64 left, v] 41 (0, 0))
  own : W.ownsRow base 5 1 v bs.length (bs.map bv)
  hb : base ≤ bw

structure Adv (W : World) (bw : Nat) (v : Value) (n : Nat) (W' : World) (v' : Value) : Prop where
  os : W'.os = W.os
  tape : W'.tape = W.tape
  output : W'.output = W.output
  size : W.heap.size ≤ W'.heap.size
  block : ∀ k, k < W.heap.size → k ≠ bw → v.ownBlock ≠ some k → W'.heap[k]? = W.heap[k]?
  at_ : v'.ownBlock = v.ownBlock ∨ ∃ g, v'.ownBlock = some g ∧ W.heap.size ≤ g
  pre : ∀ g j, v.ownBlock = some g → j < n → W'.cell? ⟨g, j, none⟩ = W.cell? ⟨g, j, none⟩

theorem own_not_bw {W : World} {base bw n : Nat} {left : Int} {v u : Value} {xs : List Value} (hblk : W.heap[bw]? = some (.cells #[.int .i64 left, u] 41 (0, 0)))
    (hown : W.ownsRow base 5 1 v n xs) : v.ownBlock ≠ some bw :=
  own_blk_ne hown (g := bw) (t := 41) (cs := #[.int .i64 left, u]) hblk (by decide)

theorem WS.lt {W : World} {base bw : Nat} {left : Int} {v : Value} {bs : List UInt8} (h : WS W base bw left v bs) : bw < W.heap.size := by
  have := (Array.getElem?_eq_some_iff.1 h.blk).1
  exact this

theorem own_lt {W : World} {base size n g : Nat} {e : TypeId} {v : Value} {xs : List Value} (hown : W.ownsRow base e size v n xs) (hg : v.ownBlock = some g) : base ≤ g ∧ g < W.heap.size := by
  rcases hown.2 with ⟨rfl, _⟩ | ⟨g', cap, cur, rfl, hb, hh, _⟩
  · cases hg
  · have : g' = g := by simpa [Value.ownBlock] using hg
    subst this
    exact ⟨hb, (Array.getElem?_eq_some_iff.1 hh).1⟩

theorem cell_of_heap {W W' : World} {g j : Nat} (h : W'.heap[g]? = W.heap[g]?) : W'.cell? ⟨g, j, none⟩ = W.cell? ⟨g, j, none⟩ := World.cell?_of_block (a := ⟨g, j, none⟩) h
theorem add0 (g j : Nat) : (⟨g, 0, none⟩ : Addr).add j = ⟨g, j, none⟩ := by unfold Addr.add; split <;> simp_all
theorem own_cell {W : World} {base n g j : Nat} {e : TypeId} {v : Value} {xs : List Value} (h : W.ownsRow base e 1 v n xs) (hg : v.ownBlock = some g) (hj : j < xs.length) : W.cell? ⟨g, j, none⟩ = xs[j]? := by
  rw [← add0, h.cells hg j _ (List.getElem?_eq_getElem hj), List.getElem?_eq_getElem hj]

theorem Adv.refl (W : World) (bw : Nat) (v : Value) (n : Nat) : Adv W bw v n W v := ⟨rfl, rfl, rfl, Nat.le_refl _, fun _ _ _ _ => rfl, .inl rfl, fun _ _ _ _ => rfl⟩

theorem Adv.trans {W W1 W2 : World} {base bw n n1 : Nat} {v v1 v2 : Value} {xs : List Value} (h : Adv W bw v n W1 v1) (h1 : Adv W1 bw v1 n1 W2 v2) (hn : n ≤ n1)
    (hown : W.ownsRow base 5 1 v n xs) (hbw : v.ownBlock ≠ some bw) : Adv W bw v n W2 v2 := by
  refine ⟨h1.os.trans h.os, h1.tape.trans h.tape, h1.output.trans h.output, Nat.le_trans h.size h1.size, fun k hk hne ho => ?_, ?_, fun g j hg hj => ?_⟩
  · refine (h1.block k (by have := h.size; omega) hne ?_).trans (h.block k hk hne ho)
    rcases h.at_ with e | ⟨g, e, hg⟩
    · rw [e]; exact ho
    · rw [e]; intro e2; injection e2 with e2; omega
  · rcases h1.at_ with e | ⟨g, e, hg⟩
    · rw [e]
      rcases h.at_ with e' | ⟨g, e', hg⟩
      · exact .inl e'
      · exact .inr ⟨g, e', hg⟩
    · exact .inr ⟨g, e, by have := h.size; omega⟩
  · have hlt := (own_lt hown hg).2
    refine Eq.trans ?_ (h.pre g j hg hj)
    by_cases hv : v1.ownBlock = some g
    · exact h1.pre g j hv (by omega)
    · exact cell_of_heap (h1.block g (by have := h.size; omega) (fun e => hbw (by rw [hg, e])) hv)

theorem Adv.below {W W' : World} {base bw n : Nat} {v v' : Value} {xs : List Value} (h : Adv W bw v n W' v') (hown : W.ownsRow base 5 1 v n xs) (hb : base ≤ bw) (hs : base ≤ W.heap.size) : Below base W W' :=
  ⟨h.os, h.tape, h.output, h.size, fun k hk => h.block k (by omega) (by omega) (fun e => by have := (own_lt hown e).1; omega)⟩

/-- BEHIND AN APPEND TO THE WRITER's BYTES, STORED BACK. -/
theorem WS.push {W W0 w1 : World} {base bw : Nat} {left : Int} {v v' : Value} {bs l : List UInt8} {m : Nat} (h : WS W base bw left v bs) (h0 : Below W.heap.size W W0) (hm : l.length = m)
    (hown : w1.ownsRow base 5 1 v' (bs.length + m) (bs.map bv ++ l.map bv)) (hg : Grew W0 v w1 v') :
    WS (w1.setCell ⟨bw, 1, none⟩ v') base bw left v' (bs ++ l) ∧ Adv W bw v bs.length (w1.setCell ⟨bw, 1, none⟩ v') v' := by
  have hlt := h.lt
  have hvb : v.ownBlock ≠ some bw := own_not_bw h.blk h.own
  have hbw1 : w1.heap[bw]? = some (.cells #[.int .i64 left, v] 41 (0, 0)) :=
    ((hg.gb.block bw (by have := h0.size; omega) (fun e => hvb e.symm)).trans (h0.block bw hlt)).trans h.blk
  have hv'b : v'.ownBlock ≠ some bw := by
    intro e
    exact own_not_bw hbw1 hown e
  have hsz : W.heap.size ≤ w1.heap.size := Nat.le_trans h0.size hg.gb.size
  have hother : ∀ k, k ≠ bw → (w1.setCell ⟨bw, 1, none⟩ v').heap[k]? = w1.heap[k]? := fun k hk => Below.heap_setCell w1 ⟨bw, 1, none⟩ v' k hk
  have hkeep : ∀ k, k < W.heap.size → k ≠ bw → v.ownBlock ≠ some k → (w1.setCell ⟨bw, 1, none⟩ v').heap[k]? = W.heap[k]? := fun k hk hne ho =>
    ((hother k hne).trans (hg.gb.block k (by have := h0.size; omega) (fun e => ho e.symm))).trans (h0.block k hk)
  refine ⟨⟨?_, ?_, h.hb⟩, ⟨hg.gb.os.trans h0.os, hg.gb.tape.trans h0.tape, hg.gb.output.trans h0.output, by simpa [World.setCell] using hsz, hkeep, ?_, ?_⟩⟩
  · have := Blk.set_ (w := w1) (g := bw) (t := 41) (cs := #[.int .i64 left, v]) hbw1 1 v'
    exact this
  · have : w1.ownsRow base 5 1 v' (bs ++ l).length ((bs ++ l).map bv) := by rw [List.length_append, hm, List.map_append]; exact hown
    refine ⟨this.1, ?_⟩
    rcases this.2 with h1 | ⟨g, cap, cur, e, hbg, hh, rest⟩
    · exact .inl h1
    · refine .inr ⟨g, cap, cur, e, hbg, ?_, rest⟩
      rw [hother g (fun e2 => hv'b (by rw [e, e2]; rfl))]
      exact hh
  · rcases hg.at_ with e | e
    · exact .inl e
    · exact .inr ⟨_, e, h0.size⟩
  · intro g j hgv hj
    have hne : g ≠ bw := fun e => hvb (by rw [hgv, e])
    have hglt := (own_lt h.own hgv).2
    refine (cell_of_heap (hother g hne)).trans ?_
    by_cases hv : v'.ownBlock = some g
    · have e1 := own_cell h.own hgv (j := j) (by simpa using hj)
      have e2 := own_cell hown hv (j := j) (by simp; omega)
      rw [e1, e2, List.getElem?_append_left (by simpa using hj)]
    · exact (cell_of_heap (hg.old g hgv hv)).trans (cell_of_heap (h0.block g hglt))
end Go.Proofs.YtonkkojankmhbaaDoor
