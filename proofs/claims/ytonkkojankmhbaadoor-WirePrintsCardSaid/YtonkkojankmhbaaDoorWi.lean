import Derived.Test.YtonkkojankmhbaaDoorBu
import Derived.Test.YtonkkojankmhbaaDoorRp
import Derived.Test.YtonkkojankmhbaaDoorJo
namespace Go.Proofs.YtonkkojankmhbaaDoor
open Go.RowKit
open Wp (It)

theorem RB.below {w w' : World} {A : Option Addr} {l : List UInt8} (h : RB w A l) (hb : Below w.heap.size w w') : RB w' A l := by
  intro hne
  obtain ⟨ad, e, hc⟩ := h hne
  exact ⟨ad, e, fun j x hx => (hb.cell (World.block_lt_of_cell? w _ (hc j x hx))).trans (hc j x hx)⟩
theorem conv_rb {W : World} {A : Option Addr} {c : Nat} {d : List UInt8} (h : RB W A d) (W' : World) (hW : ∀ (p : Addr) (v : Value), W.cell? p = some v → W'.cell? p = some v) :
    (convert 24 9 (.slice A d.length c)).run Tryd.prog W' = .ok (strV d) W' := by
  cases d with
  | nil =>
    rw [run_convert_bytes_string W' 24 9 5 A _ c Tryd.underlying24 Tryd.underlying5 Tryd.underlying9]
    cases A <;> rfl
  | cons x r =>
    obtain ⟨ad, rfl, hc⟩ := h (by simp)
    refine run_convert_bytes_back (P := Tryd.prog) W' 24 9 5 ad c (x :: r) Tryd.underlying24 Tryd.underlying5 Tryd.underlying9 (fun j hj => ?_)
    exact hW _ _ (hc j _ (List.getElem?_eq_getElem hj))
theorem eq_S (a : List UInt8) (W : World) : (binOp .eql 9 (strV a) (strV a)).run Tryd.prog W = .ok (.bool true) W := by
  have := Tryd.underlying9
  simp [strV, binOp, Op.stringOp]

theorem eg_S (a b : List UInt8) (x y : Operand) (W : World) : (eqGuard .eql 9 x y (strV a) (strV b)).run Tryd.prog W = .ok () W := by simp [eqGuard, strV]

def rRef (i : It) : Option (List UInt8) := if (Wp.rValid vfD i 1 4096).isSome then Wp.rWrite i else none
theorem print_ref (i : It) : (Wp.pItem vfD i 1 4096 []).map (·.2) = rRef i := Wp.print_same vfD i

set_option maxHeartbeats 4000000 in
theorem prints_any (A : Option Addr) (c : Nat) (ns : List Nd) (W : World) (hn : NdAt W A ns) (hm : ns.length ≤ 9223372036854775807) (hok : ∀ x ∈ ns, x.ok) (hT : Lib.Utf8Tabs 0 1 W) (h2 : 2 ≤ W.heap.size) :
    Calls Tryd.prog 3 #[.slice A ns.length c] W fun e w' => e = .returned (.bool true) ∧ Below W.heap.size W w' := by
  by_cases hl : 256 < ns.length
  · have HS := Lib.hid (small_long A c ns W hn hl hm)
    clear hn hok hT hl
    go_enter Tryd.func3, Tryd.ntmps3
    go_wp2_with (go_at_call 4; (refine (HS.out).mono ?_); rintro e w1 ⟨rfl, rfl⟩)
    go_ret
    exact ⟨rfl, Below.refl _ _⟩
  by_cases hs : sumS ns ≤ 262144
  · have HS := Lib.hid (small_short A c ns W hn (by omega) hok true (by simp [hs]))
    have HB := Lib.hid (fun (w : World) (hb : Below W.heap.size W w) => built_any A c ns w (hn.below hb) (by omega) hok hs (Utf8Tabs_below hT hb) (Nat.le_trans h2 hb.size))
    have HP := Lib.hid (fun (c0 c1 c2 c3 : Value) (w : World) (hi : ItAt w w.heap.size (builtIt ns) [c0, c1, c2, c3]) => print_any vfD (builtIt ns) (item_all _) c0 c1 c2 c3 w hi)
    have HR := Lib.hid (fun (c0 c1 c2 c3 : Value) (w : World) (hb : Below W.heap.size W w) (hi : ItAt w w.heap.size (builtIt ns) [c0, c1, c2, c3]) => rprint_any (builtIt ns) c0 c1 c2 c3 w w.heap.size (Nat.le_refl _) (Utf8Tabs_below hT hb) hi)
    have hpr := print_ref (builtIt ns)
    cases hp : Wp.pItem vfD (builtIt ns) 1 4096 [] with
    | none =>
      rw [hp] at HP hpr
      have hr : (if (Wp.rValid vfD (builtIt ns) 1 4096).isSome then Wp.rWrite (builtIt ns) else none) = none := hpr.symm
      rw [hr] at HR
      clear hn hok hT hl hs hp hpr hr hm
      go_enter Tryd.func3, Tryd.ntmps3
      go_wp2_with (first
        | (go_at_call 4; (refine (HS.out).mono ?_); rintro e w1 ⟨rfl, rfl⟩; have s0 : Below W.heap.size W W := Below.refl _ _)
        | (go_at_call 6; (with_reducible refine (HB.out _ s3).mono ?_); rintro e w4 ⟨d0, d1, d2, d3, rfl, i4, b4⟩; have s4 : Below W.heap.size W w4 := s3.trans (b4.mono s3.size))
        | (go_at_call 6; (with_reducible refine (HB.out _ s0).mono ?_); rintro e w2 ⟨c0, c1, c2, c3, rfl, i2, b2⟩; have s2 : Below W.heap.size W w2 := s0.trans (b2.mono s0.size))
        | (go_at_call 5; (with_reducible refine (HP.out c0 c1 c2 c3 _ i2).mono ?_); rintro e w3 ⟨b3, rfl⟩; have s3 : Below W.heap.size W w3 := s2.trans (b3.mono s2.size))
        | (go_at_call 7; (with_reducible refine (HR.out d0 d1 d2 d3 _ s4 i4).mono ?_); rintro e w5 ⟨b5, t5, rfl⟩; have s5 : Below W.heap.size W w5 := s4.trans (b5.mono s4.size)))
      go_ret
      exact ⟨rfl, s5⟩
    | some r =>
      obtain ⟨l2, bs⟩ := r
      rw [hp] at HP hpr
      have hr : (if (Wp.rValid vfD (builtIt ns) 1 4096).isSome then Wp.rWrite (builtIt ns) else none) = some bs := hpr.symm
      rw [hr] at HR
      have heq := eq_S bs
      have hegd := eg_S bs bs
      clear hn hok hT hl hs hp hpr hr hm
      go_enter Tryd.func3, Tryd.ntmps3
      go_wp2_with (first
        | (go_at_call 4; (refine (HS.out).mono ?_); rintro e w1 ⟨rfl, rfl⟩; have s0 : Below W.heap.size W W := Below.refl _ _)
        | (go_at_call 6; (with_reducible refine (HB.out _ s3).mono ?_); rintro e w4 ⟨d0, d1, d2, d3, rfl, i4, b4⟩; have s4 : Below W.heap.size W w4 := s3.trans (b4.mono s3.size))
        | (go_at_call 6; (with_reducible refine (HB.out _ s0).mono ?_); rintro e w2 ⟨c0, c1, c2, c3, rfl, i2, b2⟩; have s2 : Below W.heap.size W w2 := s0.trans (b2.mono s0.size))
        | (go_at_call 5; (with_reducible refine (HP.out c0 c1 c2 c3 _ i2).mono ?_); rintro e w3 ⟨b3, A3, k3, rfl, rb3⟩; have s3 : Below W.heap.size W w3 := s2.trans (b3.mono s2.size))
        | (go_at_call 7; (with_reducible refine (HR.out d0 d1 d2 d3 _ s4 i4).mono ?_); rintro e w5 ⟨b5, rfl⟩; have s5 : Below W.heap.size W w5 := s4.trans (b5.mono s4.size); have cv5 := conv_rb (c := k3) ((rb3.below b4).below b5) w5 (fun _ _ h => h)))
      go_ret
      exact ⟨rfl, s5⟩
  · have HS := Lib.hid (small_short A c ns W hn (by omega) hok false (by simp [hs]))
    clear hn hok hT hl hs
    go_enter Tryd.func3, Tryd.ntmps3
    go_wp2_with (go_at_call 4; (refine (HS.out).mono ?_); rintro e w1 ⟨rfl, rfl⟩)
    go_ret
    exact ⟨rfl, Below.refl _ _⟩
end Go.Proofs.YtonkkojankmhbaaDoor
