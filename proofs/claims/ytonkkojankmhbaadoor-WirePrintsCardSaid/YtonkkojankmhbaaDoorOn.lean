/- What comes in, opened: a slice of nodes. -/
import Derived.Test.YtonkkojankmhbaaDoorSm
import Derived.Deep.Slices
import Derived.Deep.Fields
import Derived.ChangeSame
import Derived.SizedLaws
import Derived.ProofKit
namespace Go.Proofs.YtonkkojankmhbaaDoor
open Go.ChangeShapes Go.WideShapes Go.Deep Go.RowKit

section
variable {H : Type} {enc : TypeId × Value → H} {P : Program} {w : World} {base : Nat} {spare : Nat → Bool} {held : Bool}
theorem open_slice_fields {t e : TypeId} {fs : Array Field} {fuel : Nat} {cs : List Value} {x : DataW H × List MemPlace} (ht : P.underlying t = some (.slice e)) (he : P.underlying e = some (.struct fs))
    (hone : oneCellFields P fs = true) (hC : P.cellsOf e = fs.size) (h : DataW.trod enc P w base spare held fuel t cs = some x) :
    (cs = [.slice none 0 0] ∧ x = (.nil, [])) ∨
    ∃ (a : Addr) (len cap m : Nat) (D : Nat → DataW H) (Pl : Nat → List MemPlace), cs = [.slice (some a) len cap] ∧ base ≤ a.block ∧ len ≤ cap ∧ cap ≤ maxLen ∧ m = (if spare a.block then cap else len) ∧
      x = (.slice ((List.range len).map D) ((List.range (m - len)).map fun j => D (len + j)), MemPlace.row a (m * fs.size) ++ (List.range m).flatMap Pl) ∧
      ∀ i, i < m → ∃ (ys : List (DataW H × List MemPlace)) (n : Nat), D i = .agg (ys.map (·.1)) ∧ Pl i = ys.flatMap (·.2) ∧ ys.length = fs.size ∧
        ∀ (j : Nat) (f : Field), fs[j]? = some f → ∃ (v : Value) (y : DataW H × List MemPlace), w.cell? (a.add (i * fs.size + j)) = some v ∧ ys[j]? = some y ∧ DataW.trod enc P w base spare held n f.type [v] = some y := by
  rcases open_slice ht h with h0 | ⟨a, len, cap, m, n, D, Pl, hcs, hb, hl, hm, hmm, hx, hi⟩
  · exact .inl h0
  · refine .inr ⟨a, len, cap, m, D, Pl, hcs, hb, hl, hm, hmm, by rw [hC] at hx; exact hx, fun i him => ?_⟩
    obtain ⟨cs', hc, ht'⟩ := hi i him
    rw [hC] at hc
    obtain ⟨ys, n', hn', hy, hlen, hyl, hf⟩ := DataW.trod_struct he ht'
    obtain ⟨_, hcl, hat⟩ := World.cells?_some hc
    simp only [Prod.mk.injEq] at hy
    refine ⟨ys, n', hy.1, hy.2, hyl, fun j f hj => ?_⟩
    obtain ⟨ho, hk⟩ := hone_of hone j f hj
    have hjl : j < fs.size := (Array.getElem?_eq_some_iff.1 hj).1
    have hcell := hat j hjl
    have hv : cs'[j]? = some (cs'[j]'(by omega)) := List.getElem?_eq_getElem (by omega)
    have h1 := hf j f hj
    rw [ho, hk] at h1
    have hone' : (cs'.drop j).take 1 = [cs'[j]'(by omega)] := by
      rw [List.drop_eq_getElem_cons (by omega)]
      rfl
    rw [hone'] at h1
    have hys : ys[j]? = some (ys[j]'(by omega)) := List.getElem?_eq_getElem (by omega)
    refine ⟨_, _, ?_, hys, h1.trans hys⟩
    rw [← Go.Deep.add_add, hcell, hv]
end

theorem weightsAll_mem {H : Type} {P : Program} {e : TypeId} : ∀ {ds : List (DataW H)} {d : DataW H}, d ∈ ds → ∀ n ∈ d.weights P e, n ∈ DataW.weightsAll P e ds
  | x :: r, d, h, n, hn => by
    simp only [DataW.weightsAll, List.mem_append]
    rcases List.mem_cons.1 h with rfl | h
    · exact Or.inl hn
    · exact Or.inr (weightsAll_mem h n hn)

theorem cells36 : Tryd.prog.cellsOf 36 = 4 := by kernel_rfl
theorem node_sized {H : Type} {ds : List (DataW H)} {elems spare : List (DataW H)} (h : (DataW.weightsEach Tryd.prog [22] ds).all (· ≤ reachBytes) = true) (hd : ds[0]? = some (.slice elems spare)) {p0 p1 p3 : DataW H} {bytes : List UInt8} (hx : DataW.agg [p0, p1, .lit (.string bytes), p3] ∈ elems) : bytes.length ≤ 140737488355328 := by
  have hr : bytes.length ≤ reachBytes := by
    refine of_decide_eq_true (List.all_eq_true.1 h _ (DataW.weights_mem_each (j := 0) (t := 22) rfl hd _ ?_))
    simp only [DataW.weights, Tryd.underlying22, List.mem_cons, List.mem_append]
    refine Or.inr (Or.inl (weightsAll_mem hx _ ?_))
    simp only [DataW.weights, Tryd.underlying36, List.map_cons, List.map_nil, DataW.weightsEach, List.mem_append, List.mem_cons, List.not_mem_nil, or_false, false_or]
    simp
  exact Nat.le_trans hr (by decide)

theorem one36 : (match Tryd.prog.underlying 36 with | some (.struct fs) => oneCellFields Tryd.prog fs | _ => false) = true := by kernel_rfl

theorem i64_range {n : Int} (h : (Lit.int .i64 n).wf = true) : -9223372036854775808 ≤ n ∧ n ≤ 9223372036854775807 := by
  simpa [Lit.wf, IntKind.min, IntKind.max, IntKind.signed, IntKind.bits] using h
theorem u64_range {n : Int} (h : (Lit.int .u64 n).wf = true) : 0 ≤ n ∧ n < 18446744073709551616 := by
  have : 0 ≤ n ∧ n ≤ 18446744073709551615 := by simpa [Lit.wf, IntKind.min, IntKind.max, IntKind.signed, IntKind.bits] using h
  omega

/-- WHAT COMES IN: nodes. -/
theorem open_nodes {H : Type} {enc : TypeId × Value → H} {W : World} {r : Reach} {base : Nat} {v : Value} {d : DataW H} {p : List MemPlace} (hv : Value.okWide Tryd.prog W r base 22 v)
    (h : DataW.Trod enc Tryd.prog W 0 (fun _ => true) true 22 v d p) (hw : (DataW.weightsEach Tryd.prog [22] [d]).all (· ≤ reachBytes) = true) :
    ∃ (A : Option Addr) (c : Nat) (ns : List Nd), v = .slice A ns.length c ∧ NdAt W A ns ∧ ns.length ≤ 9223372036854775807 ∧ ∀ x ∈ ns, x.ok := by
  obtain ⟨A, n, c, rfl⟩ := okWide_slice Tryd.underlying22 hv
  obtain ⟨fuel, hf⟩ := h
  rcases open_slice_fields Tryd.underlying22 Tryd.underlying36 one36 cells36 hf with ⟨h0, _⟩ | ⟨a, len, cap, m, D, Pl, hcs, _, hl, hm, hmm, hx, hi⟩
  · simp only [Value.cells] at h0
    have : A = none ∧ n = 0 := by simp at h0; exact ⟨h0.1, h0.2.1⟩
    obtain ⟨rfl, rfl⟩ := this
    exact ⟨none, c, [], rfl, fun h => absurd h (by simp), by simp, fun x hx => by cases hx⟩
  · simp only [Value.cells] at hcs
    have hcs' : A = some a ∧ n = len ∧ c = cap := by simpa using hcs
    obtain ⟨rfl, rfl, rfl⟩ := hcs'
    have hmn : n ≤ m := by rw [hmm]; split <;> omega
    simp only [Prod.mk.injEq] at hx
    obtain ⟨hxd, _⟩ := hx
    have node : ∀ i, i < n → ∃ x : Nd, x.ok ∧ W.cell? (a.add (i * 4 + 0)) = some (.int .i64 x.k) ∧ W.cell? (a.add (i * 4 + 1)) = some (.int .u64 (x.n : Int)) ∧ W.cell? (a.add (i * 4 + 2)) = some (.string x.s) ∧ W.cell? (a.add (i * 4 + 3)) = some (.int .i64 x.m) := by
      intro i hin
      obtain ⟨ys, fl, hD, _, hyl, hfld⟩ := hi i (by omega)
      obtain ⟨v0, y0, hc0, hy0, ht0⟩ := hfld 0 _ rfl
      obtain ⟨v1, y1, hc1, hy1, ht1⟩ := hfld 1 _ rfl
      obtain ⟨v2, y2, hc2, hy2, ht2⟩ := hfld 2 _ rfl
      obtain ⟨v3, y3, hc3, hy3, ht3⟩ := hfld 3 _ rfl
      obtain ⟨z0, e0, rfl, r0⟩ := DataW.trod_int Tryd.underlying3 ht0
      obtain ⟨z1, e1, rfl, r1⟩ := DataW.trod_int Tryd.underlying28 ht1
      obtain ⟨s2, e2, rfl, r2⟩ := DataW.trod_string Tryd.underlying9 ht2
      obtain ⟨z3, e3, rfl, r3⟩ := DataW.trod_int Tryd.underlying3 ht3
      simp only [List.cons.injEq, and_true] at e0 e1 e2 e3
      subst e0 e1 e2 e3
      have hys : ys = [(.lit (.int .i64 z0), []), (.lit (.int .u64 z1), []), (.lit (.string s2.data.toList), []), (.lit (.int .i64 z3), [])] := by
        match ys, hyl with
        | [a0, a1, a2, a3], _ =>
          simp at hy0 hy1 hy2 hy3
          simp [hy0, hy1, hy2, hy3]
      have hmem : DataW.agg [.lit (.int .i64 z0), .lit (.int .u64 z1), .lit (.string s2.data.toList), .lit (.int .i64 z3)] ∈ (List.range n).map D := by
        refine List.mem_map.2 ⟨i, List.mem_range.2 hin, ?_⟩
        rw [hD, hys]
        rfl
      have hsz := node_sized hw (by rw [hxd]; rfl) hmem
      have hsz' : s2.size ≤ 140737488355328 := by
        have e : s2.data.toList.length = s2.size := by rw [Array.length_toList]; rfl
        omega
      have ra := i64_range r3
      have rb := u64_range r1
      refine ⟨⟨z0, z1.toNat, s2, z3⟩, ⟨by show z1.toNat < _; omega, ra.1, ra.2, hsz'⟩, hc0, ?_, hc2, hc3⟩
      show W.cell? (a.add (i * 4 + 1)) = some (.int .u64 ((z1.toNat : Nat) : Int))
      rw [Int.toNat_of_nonneg rb.1]
      exact hc1
    have all : ∀ q, q ≤ n → ∃ ns : List Nd, ns.length = q ∧ (∀ x ∈ ns, x.ok) ∧ ∀ i (h : i < ns.length), W.cell? (a.add (i * 4 + 0)) = some (.int .i64 ns[i].k) ∧ W.cell? (a.add (i * 4 + 1)) = some (.int .u64 (ns[i].n : Int)) ∧ W.cell? (a.add (i * 4 + 2)) = some (.string ns[i].s) ∧ W.cell? (a.add (i * 4 + 3)) = some (.int .i64 ns[i].m) := by
      intro q
      induction q with
      | zero => intro _; exact ⟨[], rfl, fun x hx => (by cases hx), fun i h => absurd h (by simp)⟩
      | succ q ih =>
        intro hq
        obtain ⟨ns, h1, h2, h3⟩ := ih (by omega)
        obtain ⟨x, hx, hcx⟩ := node q (by omega)
        refine ⟨ns ++ [x], by simp [h1], fun y hy => ?_, fun i hi => ?_⟩
        · rcases List.mem_append.1 hy with hy | hy
          · exact h2 y hy
          · rw [List.mem_singleton.1 hy]; exact hx
        · by_cases hiq : i < ns.length
          · rw [List.getElem_append_left hiq]; exact h3 i hiq
          · have hie : i = q := by simp [h1] at hi hiq; omega
            subst hie
            rw [List.getElem_append_right (by omega)]
            simpa [h1] using hcx
    obtain ⟨ns, h1, h2, h3⟩ := all n (Nat.le_refl _)
    refine ⟨some a, c, ns, by rw [h1], fun h0 => ?_, by simp only [maxLen] at hm; omega, h2⟩
    obtain ⟨g, o, sp⟩ := a
    have hsp : sp = none := by
      have := World.cell?_spot (h3 0 h0).1
      simpa [Addr.add] using this
    subst hsp
    have hg := World.block_lt_of_cell? W _ (h3 0 h0).1
    refine ⟨g, o, rfl, by simpa [Addr.add] using hg, fun q hq => ?_⟩
    obtain ⟨k0, k1, k2, k3⟩ := h3 q hq
    rw [addr_add] at k0 k1 k2 k3
    exact ⟨k0, by rw [Nat.add_assoc]; exact k1, by rw [Nat.add_assoc]; exact k2, by rw [Nat.add_assoc]; exact k3⟩
end Go.Proofs.YtonkkojankmhbaaDoor
