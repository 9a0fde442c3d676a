import Derived.Test.YtonkkojankmhbaaDoorVd
import Derived.Test.YtonkkojankmhbaaDoorPr
import Derived.Test.YtonkkojankmhbaaDoorItN
import Derived.Test.YtonkkojankmhbaaDoorItD
import Derived.Test.YtonkkojankmhbaaDoorItL
import Derived.Test.YtonkkojankmhbaaDoorItX
namespace Go.Proofs.YtonkkojankmhbaaDoor
open Go.RowKit
open Wp (It)

theorem ent21 : Enters Tryd.prog 21 := enters_of Tryd.func21 (by kernel_rfl) rfl
theorem ent22 : Enters Tryd.prog 22 := enters_of Tryd.func22 (by kernel_rfl) rfl
theorem ent23 : Enters Tryd.prog 23 := enters_of Tryd.func23 (by kernel_rfl) rfl
theorem ent24 : Enters Tryd.prog 24 := enters_of Tryd.func24 (by kernel_rfl) rfl

theorem fit21 (g o : Nat) (W : World) : Calls Tryd.prog 21 #[.pointer (some ⟨g, o, none⟩)] W fun e w' => e = .returned (.bool true) ∧ Below W.heap.size W w' := by
  go_enter Tryd.func21, Tryd.ntmps21
  go_wp2
  go_ret
  exact ⟨rfl, Below.refl _ _⟩
theorem fit22 (B g o : Nat) (W : World) (k : Int) (n : Nat) (d : List UInt8) (l : List It) (hB : B ≤ W.heap.size) (hp : PtrIt W B (.mk k n d l) g o) :
    Calls Tryd.prog 22 #[.pointer (some ⟨g, o, none⟩)] W fun e w' => e = .returned (.bool (vfD d)) ∧ Below W.heap.size W w' := by
  obtain ⟨A, c, A2, c2, cells, ic⟩ := hp.cells
  have g2 := ic.f2
  have HV := Lib.hid (valid_at A d d.length c B W rfl ic.db ic.dc.1 ic.dc.2.1 hB ic.dr ic.dc.2.2.2)
  go_enter Tryd.func22, Tryd.ntmps22
  go_wp2_with (go_at_call 19; (refine (HV.out).mono ?_); rintro e W2 ⟨rfl, b2⟩)
  go_ret
  exact ⟨rfl, b2⟩
theorem fit23 (B g o : Nat) (W : World) (k : Int) (n : Nat) (d : List UInt8) (l : List It) (hp : PtrIt W B (.mk k n d l) g o) :
    Calls Tryd.prog 23 #[.pointer (some ⟨g, o, none⟩)] W fun e w' => e = .returned (.bool (l.length % 2 == 0)) ∧ Below W.heap.size W w' := by
  obtain ⟨A, c, A2, c2, cells, ic⟩ := hp.cells
  have g3 := ic.f3
  have hlb := ic.lb
  by_cases h : l.length % 2 = 0
  · have e1 : (l.length % 2 == 0) = true := by simp [h]
    have hz : (l.length : Int) % 2 = 0 := by omega
    rw [e1]
    clear e1
    go_enter Tryd.func23, Tryd.ntmps23
    go_wp2
    go_ret
    exact ⟨rfl, Below.refl _ _⟩
  · have e1 : (l.length % 2 == 0) = false := by simp; omega
    have hz : (l.length : Int) % 2 = 1 := by omega
    rw [e1]
    clear e1
    go_enter Tryd.func23, Tryd.ntmps23
    go_wp2
    go_ret
    exact ⟨rfl, Below.refl _ _⟩
theorem fit24 (B g o : Nat) (W : World) (k : Int) (n : Nat) (d : List UInt8) (l : List It) (hp : PtrIt W B (.mk k n d l) g o) :
    Calls Tryd.prog 24 #[.pointer (some ⟨g, o, none⟩)] W fun e w' => e = .returned (.bool (decide (20 ≤ n) && decide (n ≤ 22))) ∧ Below W.heap.size W w' := by
  obtain ⟨A, c, A2, c2, cells, ic⟩ := hp.cells
  have g1 := ic.f1
  by_cases h : 20 ≤ n
  · by_cases h2 : n ≤ 22
    · have e1 : (decide (20 ≤ n) && decide (n ≤ 22)) = true := by simp [h, h2]
      have hz : (20 : Int) ≤ (n : Int) := by omega
      have hy : (n : Int) ≤ 22 := by omega
      rw [e1]
      clear e1
      go_enter Tryd.func24, Tryd.ntmps24
      go_wp2
      go_ret
      exact ⟨rfl, Below.refl _ _⟩
    · have e1 : (decide (20 ≤ n) && decide (n ≤ 22)) = false := by simp; omega
      have hz : (20 : Int) ≤ (n : Int) := by omega
      have hy : ¬ (n : Int) ≤ 22 := by omega
      rw [e1]
      clear e1
      go_enter Tryd.func24, Tryd.ntmps24
      go_wp2
      go_ret
      exact ⟨rfl, Below.refl _ _⟩
  · have e1 : (decide (20 ≤ n) && decide (n ≤ 22)) = false := by simp; omega
    have hz : ¬ (20 : Int) ≤ (n : Int) := by omega
    rw [e1]
    clear e1
    go_enter Tryd.func24, Tryd.ntmps24
    go_wp2
    go_ret
    exact ⟨rfl, Below.refl _ _⟩

theorem find_none (k : Int) (h : k ≠ 0 ∧ k ≠ 1 ∧ k ≠ 2 ∧ k ≠ 3 ∧ k ≠ 4 ∧ k ≠ 5 ∧ k ≠ 7) : Instr.findNow (.int .i64) (.int .i64 k) shapesMap.toList 0 = some none := by
  obtain ⟨h0, h1, h2, h3, h4, h5, h7⟩ := h
  have e : ∀ z : Int, k ≠ z → (k == z) = false ∧ (z == k) = false := fun z h => by simp [h, Ne.symm h]
  simp [shapesMap, Instr.findNow, Instr.sameNow, e 0 h0, e 1 h1, e 2 h2, e 3 h3, e 4 h4, e 5 h5, e 7 h7, h0, h1, h2, h3, h4, h5, h7]

theorem item_all : ∀ (i : It), ItemOK vfD i
  | .mk k n d l => by
    intro base bw g o B W left deep v bs hw hl0 hl2 hd hB hs hbs hp
    have ih := fun (i : It) (_ : i ∈ l) => item_all i
    by_cases hc : left < 1 ∨ 16 < deep
    · refine (item_bad_count base bw g o W left (deep : Int) v bs hw (by omega) hl2 (by omega)).mono ?_
      rintro e w' ⟨rfl, ha⟩
      refine end_bad ?_ ha
      simp only [Wp.pItem]
      rw [if_neg (by omega)]
    have h1 : 1 ≤ left := by omega
    have h16 : deep ≤ 16 := by omega
    have hb8 : bs.length ≤ 65800 := by omega
    by_cases hk : k ≠ 0 ∧ k ≠ 1 ∧ k ≠ 2 ∧ k ≠ 3 ∧ k ≠ 4 ∧ k ≠ 5 ∧ k ≠ 7
    · exact item_none vfD base bw g o B W left deep v bs hw h1 hl2 h16 hB hs k n d l hp (find_none k hk) (by simp [Wp.fine]; omega)
    have hBx : ∀ Wx : World, Below base W Wx → B ≤ Wx.heap.size := fun Wx hb => Nat.le_trans hB (Nat.le_trans hs hb.size)
    rcases (show k = 0 ∨ k = 1 ∨ k = 2 ∨ k = 3 ∨ k = 4 ∨ k = 5 ∨ k = 7 by omega) with rfl | rfl | rfl | rfl | rfl | rfl | rfl
    · exact item_num vfD base bw g o B W left deep v bs hw h1 hl2 h16 hB hs hb8 0 n d l hp 21 0 true (by omega) (by rfl) ent21 (fun Wx _ _ => fit21 g o Wx) (by simp [Wp.fine])
    · exact item_num vfD base bw g o B W left deep v bs hw h1 hl2 h16 hB hs hb8 1 n d l hp 21 1 true (by omega) (by rfl) ent21 (fun Wx _ _ => fit21 g o Wx) (by simp [Wp.fine])
    · exact item_data vfD base bw g o B W left deep v bs hw h1 hl2 h16 hB hs hb8 2 n d l hp 21 2 true (by omega) (by rfl) ent21 (fun Wx _ _ => fit21 g o Wx) (by simp [Wp.fine])
    · exact item_data vfD base bw g o B W left deep v bs hw h1 hl2 h16 hB hs hb8 3 n d l hp 22 3 (vfD d) (by omega) (by rfl) ent22 (fun Wx hb hpx => fit22 B g o Wx 3 n d l (hBx Wx hb) hpx) (by simp [Wp.fine])
    · refine item_list vfD base bw g o B W left deep v bs hw h1 hl2 h16 hB hs hb8 4 n d l hp 21 4 true (by omega) (by rfl) ent21 (fun Wx _ _ => fit21 g o Wx) (by simp [Wp.fine]) (fun Wx vx hwx hbx => ?_)
      exact list_arr vfD base bw g o B Wx (left - 1) deep vx bs hwx (by omega) (by omega) h16 hB (Nat.le_trans hs hbx.size) hbs n d l (hp.below (hbx.mono hB)) ih
    · refine item_list vfD base bw g o B W left deep v bs hw h1 hl2 h16 hB hs hb8 5 n d l hp 23 5 (l.length % 2 == 0) (by omega) (by rfl) ent23 (fun Wx _ hpx => fit23 B g o Wx 5 n d l hpx) (by simp [Wp.fine]) (fun Wx vx hwx hbx => ?_)
      exact list_map vfD base bw g o B Wx (left - 1) deep vx bs hwx (by omega) (by omega) h16 hB (Nat.le_trans hs hbx.size) hbs n d l (hp.below (hbx.mono hB)) ih
    · exact item_num vfD base bw g o B W left deep v bs hw h1 hl2 h16 hB hs hb8 7 n d l hp 24 6 (decide (20 ≤ n) && decide (n ≤ 22)) (by omega) (by rfl) ent24 (fun Wx _ hpx => fit24 B g o Wx 7 n d l hpx) (by simp [Wp.fine])
  termination_by i => SizeOf.sizeOf i
  decreasing_by
    have := List.sizeOf_lt_of_mem ‹i ∈ l›
    simp only [Wp.It.mk.sizeOf_spec]; omega
end Go.Proofs.YtonkkojankmhbaaDoor
