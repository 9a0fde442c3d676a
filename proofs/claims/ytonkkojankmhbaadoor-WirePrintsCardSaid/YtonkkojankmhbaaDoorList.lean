import Derived.Test.YtonkkojankmhbaaDoorItB
import Derived.BigQuiet
import Derived.Deep.QuietTactic
import Derived.Lib.Bytealg
import Derived.Laws.Externs
namespace Go.Proofs.YtonkkojankmhbaaDoor
open Go.RowKit
open Wp (It)

/-- a slice of bytes that no step of the writer turns: below its length in the row, or in an elder row -/
def Kept (W : World) (bw : Nat) (v : Value) (n : Nat) (A : Option Addr) (xs : List UInt8) : Prop :=
  xs ≠ [] → ∃ g o, A = some ⟨g, o, none⟩ ∧ g < W.heap.size ∧ g ≠ bw ∧ (v.ownBlock = some g → o + xs.length ≤ n) ∧ ∀ j (h : j < xs.length), W.cell? ⟨g, o + j, none⟩ = some (bv xs[j])

theorem Kept.adv {W W' : World} {bw n n' : Nat} {v v' : Value} {A : Option Addr} {xs : List UInt8} (h : Kept W bw v n A xs) (ha : Adv W bw v n W' v') (hn : n ≤ n') : Kept W' bw v' n' A xs := by
  intro hne
  obtain ⟨g, o, rfl, hg, hb, ho, hc⟩ := h hne
  refine ⟨g, o, rfl, Nat.lt_of_lt_of_le hg ha.size, hb, fun e => ?_, fun j hj => ?_⟩
  · rcases ha.at_ with e' | ⟨g', e', hg'⟩
    · have := ho (by rw [← e', e]); omega
    · rw [e'] at e; injection e with e; omega
  · refine Eq.trans ?_ (hc j hj)
    by_cases hv : v.ownBlock = some g
    · exact ha.pre g (o + j) hv (by have := ho hv; omega)
    · exact cell_of_heap (ha.block g hg hb hv)

/-- a slice of bytes that can be read -/
def RB (w : World) (A : Option Addr) (l : List UInt8) : Prop := l ≠ [] → ∃ ad, A = some ad ∧ ∀ j x, l[j]? = some x → w.cell? (ad.add j) = some (bv x)
theorem RB.of_reads {w : World} {B : Nat} {A : Option Addr} {l : List UInt8} (h : Reads w B 1 A l.length (l.map bv)) : RB w A l := by
  intro hne
  obtain ⟨ad, e, _, hc⟩ := h.2 (List.length_pos_iff.2 hne)
  exact ⟨ad, e, fun j x hx => hc j _ (by rw [List.getElem?_map, hx]; rfl)⟩
theorem addr_add (g o j : Nat) : (⟨g, o, none⟩ : Addr).add j = ⟨g, o + j, none⟩ := by unfold Addr.add; split <;> simp_all
theorem Kept.rb {W : World} {bw n : Nat} {v : Value} {A : Option Addr} {xs : List UInt8} (h : Kept W bw v n A xs) : RB W A xs := by
  intro hne
  obtain ⟨g, o, e, _, _, _, hc⟩ := h hne
  refine ⟨_, e, fun j x hx => ?_⟩
  obtain ⟨hj, rfl⟩ := List.getElem?_eq_some_iff.1 hx
  rw [addr_add]
  exact hc j hj

theorem run_loadB {P : Program} {w : World} : ∀ (l : List UInt8) (a : Addr) (acc : ByteArray), (∀ j x, l[j]? = some x → w.cell? (a.add j) = some (bv x)) →
    (Extern.Bytes.loadBytes a l.length acc).run P w = .ok ⟨acc.data ++ l.toArray⟩ w
  | [], a, acc, _ => by simp [Extern.Bytes.loadBytes]
  | x :: l, a, acc, h => by
    have h0 : w.cell? a = some (.int .u8 (x.toNat : Int)) := by have := h 0 x rfl; simpa [Addr.add, bv] using this
    have ih := run_loadB (P := P) (w := w) l (a.add 1) (acc.push x) (fun j y hy => by
      have := h (j + 1) y (by simpa using hy)
      rw [add_of_add, Nat.add_comm]; exact this)
    have hx : ((x.toNat : Int)).toNat.toUInt8 = x := by simp
    simp only [List.length_cons, Extern.Bytes.loadBytes, Sem.run_bind, run_load, h0, Result.andThen, hx]
    rw [ih]
    congr 1
    simp [ByteArray.push]

theorem run_bytesOf {P : Program} {w : World} {A : Option Addr} {l : List UInt8} (c : Nat) (h : RB w A l) : (Extern.Bytes.bytesOf (.slice A l.length c)).run P w = .ok ⟨l.toArray⟩ w := by
  cases A with
  | none =>
    have : l = [] := Classical.byContradiction fun hne => by obtain ⟨ad, e, _⟩ := h hne; cases e
    subst this
    simp only [Extern.Bytes.bytesOf, Sem.run_pure]
    rfl
  | some a =>
    simp only [Extern.Bytes.bytesOf]
    have := run_loadB (P := P) (w := w) l a .empty (fun j x hx => by
      obtain ⟨ad, e, hc⟩ := h (by rintro rfl; simp at hx)
      injection e with e
      subst e
      exact hc j x hx)
    rw [this]
    simp

theorem run_compare {P : Program} {w : World} {A A2 : Option Addr} {l l2 : List UInt8} (c c2 : Nat) (h : RB w A l) (h2 : RB w A2 l2) :
    (Extern.BytealgCompare.compare #[.slice A l.length c, .slice A2 l2.length c2]).run P w = .ok (.int .i64 (Lib.compareBytes l l2)) w := by
  change Sem.run P (do pure (goInt (Extern.BytealgCompare.cmp (← Extern.Bytes.bytesOf (.slice A l.length c)) (← Extern.Bytes.bytesOf (.slice A2 l2.length c2))))) w = _
  simp only [Sem.run_bind, Sem.run_pure, Result.andThen, run_bytesOf c h, run_bytesOf c2 h2]
  rw [Lib.cmp_eq]
  rfl
theorem compare28 (args : Array Value) (w : World) : (callFunc 28 args).run Tryd.prog w = ((Extern.BytealgCompare.compare args).run Tryd.prog w).andThen fun v w' => .ok (.value v) w' :=
  run_callFunc_extern Tryd.func28 (by kernel_rfl) (by kernel_rfl) (by kernel_rfl) (by kernel_rfl) args w

theorem compare_any (A A2 : Option Addr) (l l2 : List UInt8) (c c2 : Nat) (w : World) (h : RB w A l) (h2 : RB w A2 l2) :
    Calls Tryd.prog 26 #[.slice A l.length c, .slice A2 l2.length c2] w fun e w' => e = .returned (.int .i64 (Lib.compareBytes l l2)) ∧ w = w' := by
  have hr : (callFunc 28 #[.slice A l.length c, .slice A2 l2.length c2]).run Tryd.prog w = .ok (.value (.int .i64 (Lib.compareBytes l l2))) w := by
    rw [compare28, run_compare c c2 h h2]; rfl
  go_enter Tryd.func26, Tryd.ntmps26
  go_wp2
  go_ret
  exact ⟨rfl, rfl⟩
theorem compare_lex : ∀ (a b : List UInt8), decide (Lib.compareBytes a b < 0) = Wp.lexLt a b
  | [], [] => rfl
  | [], _ :: _ => rfl
  | _ :: _, [] => rfl
  | x :: a, y :: b => by
    unfold Lib.compareBytes Wp.lexLt
    by_cases h1 : x < y
    · simp [h1]
    · by_cases h2 : y < x
      · have : ¬ (x == y) = true := by simp; intro e; subst e; exact UInt8.lt_irrefl _ h2
        simp [h1, h2, this]
      · have e : x = y := UInt8.le_antisymm (UInt8.not_lt.1 h2) (UInt8.not_lt.1 h1)
        subst e
        simp [UInt8.lt_irrefl, compare_lex a b]
end Go.Proofs.YtonkkojankmhbaaDoor
