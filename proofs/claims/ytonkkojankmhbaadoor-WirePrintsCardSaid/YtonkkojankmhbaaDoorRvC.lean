import Derived.Test.YtonkkojankmhbaaDoorRvB
namespace Go.Proofs.YtonkkojankmhbaaDoor
open Go.RowKit
open Wp (It)

set_option maxRecDepth 100000 in
theorem rv_count (a : Value) (deep : Nat) (left : Int) (hl0 : 0 ≤ left) (hl2 : left ≤ 4096) (hd : deep ≤ 17) (h : left < 1 ∨ 16 < deep) (W : World) (cs : Array Value) (ha : a = .agg cs) (hs : cs.size = 4) :
    Calls Tryd.prog 11 #[a, .int .i64 (deep : Int), .int .i64 left] W fun e w' => e = .returned (.tuple #[.int .i64 0, .bool false]) ∧ Below W.heap.size W w' := by
  obtain ⟨c0, c1, c2, c3, rfl⟩ : ∃ c0 c1 c2 c3, cs = #[c0, c1, c2, c3] := by
    obtain ⟨l⟩ := cs
    match l, hs with
    | [c0, c1, c2, c3], _ => exact ⟨c0, c1, c2, c3, rfl⟩
  subst ha
  clear hs
  by_cases h1 : left < 1
  · clear h
    go_enter Tryd.func11, Tryd.ntmps11
    go_wp2
    go_ret2
    exact ⟨rfl, below_box W _⟩
  · have h2 : (16 : Int) < (deep : Int) := by omega
    clear h
    go_enter Tryd.func11, Tryd.ntmps11
    go_wp2
    go_ret2
    exact ⟨rfl, below_box W _⟩

theorem rv_no_of {k : Int} {n : Nat} {d : List UInt8} {l : List It} {deep : Nat} {left : Int} {W : World} {args : Array Value} (hf : Wp.fine vfD k n d l = false)
    (h : Calls Tryd.prog 11 args W fun e w' => e = .returned (.tuple #[.int .i64 0, .bool false]) ∧ Below W.heap.size W w') : Calls Tryd.prog 11 args W (RvPost W (Wp.rValid vfD (.mk k n d l) deep left)) := by
  refine h.mono ?_
  rintro e w' ⟨rfl, hb⟩
  refine rvp_none ?_ hb
  simp only [Wp.rValid, hf]
  split <;> rfl
theorem rv_yes_of {k : Int} {n : Nat} {d : List UInt8} {l : List It} {deep : Nat} {left : Int} {W : World} {args : Array Value} (hc : ¬ (left < 1 ∨ deep > 16)) (hf : Wp.fine vfD k n d l = true)
    (h : Calls Tryd.prog 11 args W (RvPost W (Wp.rValidL vfD l (deep + 1) left 1))) : Calls Tryd.prog 11 args W (RvPost W (Wp.rValid vfD (.mk k n d l) deep left)) := by
  have : Wp.rValid vfD (.mk k n d l) deep left = Wp.rValidL vfD l (deep + 1) left 1 := by
    simp only [Wp.rValid, hf, if_true]
    rw [if_neg hc]
  rw [this]
  exact h
theorem nil_of {α : Type} {l : List α} (h : l.length = 0) : l = [] := List.length_eq_zero_iff.1 h

theorem rv_all : ∀ (i : It), RvOK i
  | .mk k n d l => by
    intro c0 c1 c2 c3 W B deep left hB hT hd hl0 hl2 hi
    have ih := fun (i : It) (_ : i ∈ l) => rv_all i
    by_cases hc : left < 1 ∨ 16 < deep
    · refine (rv_count _ deep left hl0 hl2 hd hc W #[c0, c1, c2, c3] rfl rfl).mono ?_
      rintro e w' ⟨rfl, hb⟩
      refine rvp_none ?_ hb
      simp only [Wp.rValid]
      rw [if_pos hc]
    have h1 : 1 ≤ left := by omega
    have h16 : deep ≤ 16 := by omega
    rcases (show k < 0 ∨ 7 < k ∨ k = 6 ∨ k = 0 ∨ k = 1 ∨ k = 2 ∨ k = 3 ∨ k = 4 ∨ k = 5 ∨ k = 7 by omega) with hk | hk | rfl | rfl | rfl | rfl | rfl | rfl | rfl | rfl
    · exact rv_no_of (by simp [Wp.fine]; omega) (rv_low k n d l deep left h1 hl2 h16 c0 c1 c2 c3 W B hB hT hi hk)
    · exact rv_no_of (by simp [Wp.fine]; omega) (rv_high k n d l deep left h1 hl2 h16 c0 c1 c2 c3 W B hB hT hi hk)
    · exact rv_no_of (by simp [Wp.fine]) (rv_six n d l deep left h1 hl2 h16 c0 c1 c2 c3 W B hB hT hi)
    · by_cases hdd : d.length = 0
      · by_cases hll : l.length = 0
        · refine rv_yes_of hc (by simp [Wp.fine, nil_of hdd, nil_of hll]) ?_
          have := rv_flat0 n d l deep left h1 hl2 h16 c0 c1 c2 c3 W B hB hT hi (nil_of hdd) (nil_of hll)
          rw [nil_of hll]; exact this
        · exact rv_no_of (by simp only [Wp.fine]; simp; intro _ h; exact absurd (by rw [h]; rfl) hll) (rv_l0 n d l deep left h1 hl2 h16 c0 c1 c2 c3 W B hB hT hi (nil_of hdd) hll)
      · exact rv_no_of (by simp only [Wp.fine]; simp; intro h; exact absurd (by rw [h]; rfl) hdd) (rv_d0 n d l deep left h1 hl2 h16 c0 c1 c2 c3 W B hB hT hi hdd)
    · by_cases hdd : d.length = 0
      · by_cases hll : l.length = 0
        · refine rv_yes_of hc (by simp [Wp.fine, nil_of hdd, nil_of hll]) ?_
          have := rv_flat1 n d l deep left h1 hl2 h16 c0 c1 c2 c3 W B hB hT hi (nil_of hdd) (nil_of hll)
          rw [nil_of hll]; exact this
        · exact rv_no_of (by simp only [Wp.fine]; simp; intro _ h; exact absurd (by rw [h]; rfl) hll) (rv_l1 n d l deep left h1 hl2 h16 c0 c1 c2 c3 W B hB hT hi (nil_of hdd) hll)
      · exact rv_no_of (by simp only [Wp.fine]; simp; intro h; exact absurd (by rw [h]; rfl) hdd) (rv_d1 n d l deep left h1 hl2 h16 c0 c1 c2 c3 W B hB hT hi hdd)
    · by_cases hnn : n = 0
      · by_cases hll : l.length = 0
        · refine rv_yes_of hc (by simp [Wp.fine, hnn, nil_of hll]) ?_
          have := rv_flat2 n d l deep left h1 hl2 h16 c0 c1 c2 c3 W B hB hT hi hnn (nil_of hll)
          rw [nil_of hll]; exact this
        · exact rv_no_of (by simp only [Wp.fine]; simp; intro _ h; exact absurd (by rw [h]; rfl) hll) (rv_l2 n d l deep left h1 hl2 h16 c0 c1 c2 c3 W B hB hT hi hnn hll)
      · exact rv_no_of (by simp only [Wp.fine]; simp; intro h; exact absurd h hnn) (rv_n2 n d l deep left h1 hl2 h16 c0 c1 c2 c3 W B hB hT hi hnn)
    · by_cases hnn : n = 0
      · by_cases hll : l.length = 0
        · cases hv : vfD d with
          | true =>
            refine rv_yes_of hc (by simp [Wp.fine, hnn, nil_of hll, hv]) ?_
            have := rv_flat3 n d l deep left h1 hl2 h16 c0 c1 c2 c3 W B hB hT hi hnn (nil_of hll) hv
            rw [nil_of hll]; exact this
          | false => exact rv_no_of (by simp [Wp.fine, hv]) (rv_t3 n d l deep left h1 hl2 h16 c0 c1 c2 c3 W B hB hT hi hnn (nil_of hll) hv)
        · exact rv_no_of (by simp only [Wp.fine]; simp; intro _ _ h; exact absurd (by rw [h]; rfl) hll) (rv_l3 n d l deep left h1 hl2 h16 c0 c1 c2 c3 W B hB hT hi hnn hll)
      · exact rv_no_of (by simp only [Wp.fine]; simp; intro _ h; exact absurd h hnn) (rv_n3 n d l deep left h1 hl2 h16 c0 c1 c2 c3 W B hB hT hi hnn)
    · by_cases hnn : n = 0
      · by_cases hdd : d.length = 0
        · refine rv_yes_of hc (by simp [Wp.fine, hnn, nil_of hdd]) ?_
          by_cases hll : l.length = 0
          · have := rv_flat4 n d l deep left h1 hl2 h16 c0 c1 c2 c3 W B hB hT hi hnn (nil_of hdd) (nil_of hll)
            rw [nil_of hll]; exact this
          · exact rv_list4 n d l deep left h1 hl2 h16 c0 c1 c2 c3 W B hB hT hi hnn (nil_of hdd) hll ih
        · exact rv_no_of (by simp only [Wp.fine]; simp; intro _ h; exact absurd (by rw [h]; rfl) hdd) (rv_d4 n d l deep left h1 hl2 h16 c0 c1 c2 c3 W B hB hT hi hnn hdd)
      · exact rv_no_of (by simp only [Wp.fine]; simp; intro h; exact absurd h hnn) (rv_n4 n d l deep left h1 hl2 h16 c0 c1 c2 c3 W B hB hT hi hnn)
    · by_cases hnn : n = 0
      · by_cases hdd : d.length = 0
        · by_cases hev : l.length % 2 = 0
          · refine rv_yes_of hc (by simp [Wp.fine, hnn, nil_of hdd, hev]) ?_
            by_cases hll : l.length = 0
            · have := rv_flat5 n d l deep left h1 hl2 h16 c0 c1 c2 c3 W B hB hT hi hnn (nil_of hdd) (nil_of hll)
              rw [nil_of hll]; exact this
            · exact rv_list5 n d l deep left h1 hl2 h16 c0 c1 c2 c3 W B hB hT hi hnn (nil_of hdd) hll hev ih
          · exact rv_no_of (by simp [Wp.fine, hev]) (rv_o5 n d l deep left h1 hl2 h16 c0 c1 c2 c3 W B hB hT hi hnn (nil_of hdd) (by omega))
        · exact rv_no_of (by simp only [Wp.fine]; simp; intro _ _ h; exact absurd (by rw [h]; rfl) hdd) (rv_d5 n d l deep left h1 hl2 h16 c0 c1 c2 c3 W B hB hT hi hnn hdd)
      · exact rv_no_of (by simp only [Wp.fine]; simp; intro _ h; exact absurd h hnn) (rv_n5 n d l deep left h1 hl2 h16 c0 c1 c2 c3 W B hB hT hi hnn)
    · by_cases hdd : d.length = 0
      · by_cases hll : l.length = 0
        · by_cases h20 : n < 20
          · exact rv_no_of (by simp [Wp.fine]; omega) (rv_s7 n d l deep left h1 hl2 h16 c0 c1 c2 c3 W B hB hT hi (nil_of hdd) (nil_of hll) h20)
          · by_cases h22 : 22 < n
            · exact rv_no_of (by simp [Wp.fine]; omega) (rv_g7 n d l deep left h1 hl2 h16 c0 c1 c2 c3 W B hB hT hi (nil_of hdd) (nil_of hll) h22)
            · refine rv_yes_of hc (by simp [Wp.fine, nil_of hdd, nil_of hll]; omega) ?_
              have := rv_flat7 n d l deep left h1 hl2 h16 c0 c1 c2 c3 W B hB hT hi (nil_of hdd) (nil_of hll) (by omega) (by omega)
              rw [nil_of hll]; exact this
        · exact rv_no_of (by simp only [Wp.fine]; simp; intro _ _ _ h; exact absurd (by rw [h]; rfl) hll) (rv_l7 n d l deep left h1 hl2 h16 c0 c1 c2 c3 W B hB hT hi (nil_of hdd) hll)
      · exact rv_no_of (by simp only [Wp.fine]; simp; intro _ _ h; exact absurd (by rw [h]; rfl) hdd) (rv_d7 n d l deep left h1 hl2 h16 c0 c1 c2 c3 W B hB hT hi hdd)
  termination_by i => SizeOf.sizeOf i
  decreasing_by
    have := List.sizeOf_lt_of_mem ‹i ∈ l›
    simp only [Wp.It.mk.sizeOf_spec]; omega
end Go.Proofs.YtonkkojankmhbaaDoor
