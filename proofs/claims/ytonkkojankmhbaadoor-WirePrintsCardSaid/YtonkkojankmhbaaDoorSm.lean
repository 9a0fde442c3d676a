import Derived.Test.YtonkkojankmhbaaDoorMap
namespace Go.Proofs.YtonkkojankmhbaaDoor
open Go.RowKit
open Wp (It)

/-- A step of an item that is built. -/
structure Nd where
  k : Int
  n : Nat
  s : ByteArray
  m : Int
def Nd.ok (x : Nd) : Prop := x.n < 18446744073709551616 ∧ -9223372036854775808 ≤ x.m ∧ x.m ≤ 9223372036854775807 ∧ x.s.size ≤ 140737488355328
def NdAt (w : World) (A : Option Addr) (ns : List Nd) : Prop := 0 < ns.length → ∃ g o, A = some ⟨g, o, none⟩ ∧ g < w.heap.size ∧ ∀ q (h : q < ns.length),
  w.cell? ⟨g, o + q * 4, none⟩ = some (.int .i64 ns[q].k) ∧ w.cell? ⟨g, o + q * 4 + 1, none⟩ = some (.int .u64 (ns[q].n : Int)) ∧ w.cell? ⟨g, o + q * 4 + 2, none⟩ = some (.string ns[q].s) ∧ w.cell? ⟨g, o + q * 4 + 3, none⟩ = some (.int .i64 ns[q].m)
theorem NdAt.below {w w' : World} {A : Option Addr} {ns : List Nd} (h : NdAt w A ns) (hb : Below w.heap.size w w') : NdAt w' A ns := fun h0 => by
  obtain ⟨g, o, e, hg, hc⟩ := h h0
  refine ⟨g, o, e, Nat.lt_of_lt_of_le hg hb.size, fun q hq => ?_⟩
  have k := fun j => hb.cell (p := ⟨g, o + q * 4 + j, none⟩) hg
  obtain ⟨h1, h2, h3, h4⟩ := hc q hq
  exact ⟨(k 0).trans h1, (k 1).trans h2, (k 2).trans h3, (k 3).trans h4⟩

def sumS (ns : List Nd) : Nat := (ns.map fun x => x.s.size).sum
theorem sumS_snoc (ns : List Nd) (q : Nat) (h : q < ns.length) : sumS (ns.take (q + 1)) = sumS (ns.take q) + ns[q].s.size := by
  unfold sumS
  rw [List.take_succ_eq_append_getElem h]
  simp only [List.map_append, List.map_cons, List.map_nil, List.sum_append, List.sum_cons, List.sum_nil, Nat.add_zero]
theorem sumS_le (ns : List Nd) (h : ∀ x ∈ ns, x.ok) : sumS ns ≤ ns.length * 140737488355328 := by
  induction ns with
  | nil => simp [sumS]
  | cons x r ih =>
    have h1 := (h x (List.mem_cons_self)).2.2.2
    have h2 := ih (fun y hy => h y (List.mem_cons_of_mem _ hy))
    simp only [sumS, List.map_cons, List.sum_cons, List.length_cons] at *
    omega
theorem mem_sum (ns : List Nd) (x : Nd) (h : x ∈ ns) : x.s.size ≤ sumS ns := by
  induction ns with
  | nil => cases h
  | cons y r ih =>
    simp only [sumS, List.map_cons, List.sum_cons]
    rcases List.mem_cons.1 h with rfl | h
    · omega
    · have := ih h; simp only [sumS] at this; omega

set_option maxHeartbeats 1000000 in
theorem small_long (A : Option Addr) (c : Nat) (ns : List Nd) (W : World) (hn : NdAt W A ns) (hl : 256 < ns.length) (hm : ns.length ≤ 9223372036854775807) :
    Calls Tryd.prog 4 #[.slice A ns.length c] W fun e w' => e = .returned (.bool false) ∧ W = w' := by
  obtain ⟨g, o, rfl, hg, hc⟩ := hn (by omega)
  have HC := Lib.hid hc
  have hlz : ¬ (ns.length : Int) ≤ 256 := by omega
  clear hc hn
  go_enter Tryd.func4, Tryd.ntmps4
  go_wp2
  go_loop [3, 4] (fun s3 s4 => ∃ (z : Int) (q : Nat), s3 = .int .i64 z ∧ s4 = .int .i64 (q : Int) ∧ q ≤ ns.length) (fun _ s => ns.length - (intOf s).toNat)
  case atStart => exact ⟨0, 0, rfl, rfl, Nat.zero_le _⟩
  case round =>
    obtain ⟨z, q, rfl, rfl, hq⟩ := hrel
    by_cases hlt : q < ns.length
    · obtain ⟨_, _, y2, _⟩ := HC.out q hlt
      generalize ns[q] = x at *
      go_wp2
      go_round
      case rel => exact ⟨_, q + 1, rfl, by go_num, by omega⟩
      case measure => simp [intOf]; omega
    · go_wp2
      go_ret
      exact ⟨rfl, rfl⟩

set_option maxHeartbeats 1000000 in
theorem small_short (A : Option Addr) (c : Nat) (ns : List Nd) (W : World) (hn : NdAt W A ns) (hl : ns.length ≤ 256) (hok : ∀ x ∈ ns, x.ok) (b : Bool) (hb : b = decide (sumS ns ≤ 262144)) :
    Calls Tryd.prog 4 #[.slice A ns.length c] W fun e w' => e = .returned (.bool b) ∧ W = w' := by
  have HN := Lib.hid hn
  have HO := Lib.hid hok
  have HB := Lib.hid hb
  have hlz : (ns.length : Int) ≤ 256 := by omega
  clear hn hok hb
  go_enter Tryd.func4, Tryd.ntmps4
  go_wp2
  go_loop [3, 4] (fun s3 s4 => ∃ (q : Nat), s3 = .int .i64 (sumS (ns.take q) : Int) ∧ s4 = .int .i64 (q : Int) ∧ q ≤ ns.length) (fun _ s => ns.length - (intOf s).toNat)
  case atStart => exact ⟨0, by simp [sumS], rfl, Nat.zero_le _⟩
  case round =>
    obtain ⟨q, rfl, rfl, hq⟩ := hrel
    have hsb := sumS_le (ns.take q) (fun x hx => HO.out x (List.mem_of_mem_take hx))
    have hsl : (ns.take q).length ≤ 256 := by rw [List.length_take]; omega
    have hsn : sumS (ns.take q) ≤ 36028797018963968 := by omega
    by_cases hlt : q < ns.length
    · obtain ⟨g, o, rfl, hg, hc⟩ := HN.out (by omega)
      have hxs := (HO.out ns[q] (List.getElem_mem hlt)).2.2.2
      have HSN := Lib.hid (sumS_snoc ns q hlt)
      obtain ⟨_, _, y2, _⟩ := hc q hlt
      clear hc hsb hsl
      generalize ns[q] = x at *
      generalize hS : sumS (ns.take q) = S at *
      clear hS
      go_wp2
      go_round
      case rel => exact ⟨q + 1, by rw [HSN.out]; go_num, by go_num, by omega⟩
      case measure => simp [intOf]; omega
    · have hqe : q = ns.length := by omega
      have e : ns.take q = ns := by rw [hqe]; exact List.take_length
      rw [e] at hsn
      have HB' := HB.out
      rw [e]
      clear e hqe hsb hsl
      generalize sumS ns = S at *
      by_cases h : S ≤ 262144
      · have hz : (S : Int) ≤ 262144 := by omega
        have hbt : b = true := by rw [HB']; simp [h]
        subst hbt
        clear HB' HB
        go_wp2
        go_ret
        exact ⟨rfl, rfl⟩
      · have hz : ¬ (S : Int) ≤ 262144 := by omega
        have hbt : b = false := by rw [HB']; simp [h]
        subst hbt
        clear HB' HB
        go_wp2
        go_ret
        exact ⟨rfl, rfl⟩
end Go.Proofs.YtonkkojankmhbaaDoor
