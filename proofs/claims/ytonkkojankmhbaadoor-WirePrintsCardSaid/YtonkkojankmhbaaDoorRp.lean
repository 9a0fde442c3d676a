import Derived.Test.YtonkkojankmhbaaDoorRvC
import Derived.Test.YtonkkojankmhbaaDoorRw
namespace Go.Proofs.YtonkkojankmhbaaDoor
open Go.RowKit
open Wp (It)

mutual
theorem kok_of_valid : ∀ (i : It) (deep : Nat) (left : Int) (m : Nat), Wp.rValid vfD i deep left = some m → kok i
  | .mk k n d l, deep, left, m, h => by
    simp only [Wp.rValid] at h
    split at h
    · cases h
    · split at h
      · rename_i hf
        refine ⟨?_, kokL_of_valid l (deep + 1) left 1 m h⟩
        simp only [Wp.fine, Bool.and_eq_true, Bool.or_eq_true, beq_iff_eq] at hf
        omega
      · cases h
theorem kokL_of_valid : ∀ (l : List It) (deep : Nat) (left : Int) (n m : Nat), Wp.rValidL vfD l deep left n = some m → kokL l
  | [], _, _, _, _, _ => trivial
  | i :: r, deep, left, n, m, h => by
    simp only [Wp.rValidL] at h
    cases hi : Wp.rValid vfD i deep (left - n) with
    | none => rw [hi] at h; cases h
    | some q =>
      rw [hi] at h
      exact ⟨kok_of_valid i deep (left - n) q hi, kokL_of_valid r deep left (n + q) m h⟩
end

theorem rw_all : ∀ (i : It), kok i → RwOK i
  | .mk k n d l, hk => by
    intro c0 c1 c2 c3 W B hB hi
    obtain ⟨⟨h0, h7⟩, hkl⟩ := hk
    have ih := fun (i : It) (hi : i ∈ l) => rw_all i (kokL_mem l hkl i hi)
    rcases (show (k = 0 ∨ k = 1 ∨ k = 7) ∨ (k = 2 ∨ k = 3) ∨ (4 ≤ k ∧ k ≤ 6) by omega) with h | h | h
    · have := rw_num k n d l h c0 c1 c2 c3 W B hB hi
      have e : Wp.rWrite (.mk k n d l) = some (Wp.headB k.toNat n) := by simp only [Wp.rWrite]; rw [if_pos (by omega)]
      rw [e]; exact this
    · have := rw_data k n d l h c0 c1 c2 c3 W B hB hi
      have e : Wp.rWrite (.mk k n d l) = if (Wp.headB k.toNat d.length ++ d).length ≤ 65536 then some (Wp.headB k.toNat d.length ++ d) else none := by simp only [Wp.rWrite]; rw [if_neg (by omega), if_pos (by omega)]
      rw [e]; exact this
    · have := rw_list k n d l h ih c0 c1 c2 c3 W B hB hi
      have e : Wp.rWrite (.mk k n d l) = Wp.rWriteL (k == 5) 0 l (Wp.headB k.toNat (if k == 5 then l.length / 2 else l.length)) [] := by simp only [Wp.rWrite]; rw [if_neg (by omega), if_neg (by omega)]
      rw [e]; exact this
  termination_by i => SizeOf.sizeOf i
  decreasing_by
    have := List.sizeOf_lt_of_mem ‹i ∈ l›
    simp only [Wp.It.mk.sizeOf_spec]; omega

theorem box_cells (W : World) (c0 c1 c2 c3 : Value) : ∀ o, o < 4 → (W.alloc (.cells #[c0, c1, c2, c3] 31)).cell? ⟨W.heap.size, o, none⟩ = #[c0, c1, c2, c3][o]? := fun o _ => by
  have hb : (W.alloc (.cells #[c0, c1, c2, c3] 31)).heap[W.heap.size]? = some (.cells #[c0, c1, c2, c3] 31 (0, 0)) := heap_alloc_new W _
  exact Blk.cell (t := 31) hb o

set_option maxHeartbeats 2000000 in
theorem rprint_any (i : It) (c0 c1 c2 c3 : Value) (W : World) (B : Nat) (hB : B ≤ W.heap.size) (hT : Lib.Utf8Tabs 0 1 W) (hi : ItAt W B i [c0, c1, c2, c3]) :
    Calls Tryd.prog 7 #[.agg #[c0, c1, c2, c3]] W (RwPost W (if (Wp.rValid vfD i 1 4096).isSome then Wp.rWrite i else none)) := by
  obtain ⟨Wb, hWb⟩ : ∃ Wb, W.alloc (.cells #[c0, c1, c2, c3] 31) = Wb := ⟨_, rfl⟩
  have hbW : Below W.heap.size W Wb := by rw [← hWb]; exact below_box W _
  have hsz : Wb.heap.size = W.heap.size + 1 := by rw [← hWb]; simp
  have bc := box_cells W c0 c1 c2 c3
  rw [hWb] at bc
  have y0 : Wb.cell? ⟨W.heap.size, 0, none⟩ = some c0 := bc 0 (by omega)
  have y1 : Wb.cell? ⟨W.heap.size, 1, none⟩ = some c1 := bc 1 (by omega)
  have y2 : Wb.cell? ⟨W.heap.size, 2, none⟩ = some c2 := bc 2 (by omega)
  have y3 : Wb.cell? ⟨W.heap.size, 3, none⟩ = some c3 := bc 3 (by omega)
  have hkeep : ∀ w, Below W.heap.size W w → ItAt w B i [c0, c1, c2, c3] := fun w hb => ItAt.keep (fun p hp => hb.cell (by omega)) i _ hi
  have hv := rv_all i c0 c1 c2 c3 Wb B 1 4096 (by omega) (Utf8Tabs_below hT hbW) (by omega) (by omega) (by omega) (hkeep Wb hbW)
  have HS := Lib.hid hsz
  clear bc hsz hi hT
  cases hr : Wp.rValid vfD i 1 4096 with
  | none =>
    rw [hr] at hv
    have HC := Lib.hid hv
    clear hv hr hkeep
    go_enter Tryd.func7, Tryd.ntmps7
    go_wp2_with (go_at_call 11; (refine (HC.out).mono ?_); rintro e W2 ⟨b2, rfl⟩)
    go_ret2
    exact rwp_none (s := []) (by rfl) (hbW.trans (b2.mono (by have := HS.out; omega)))
  | some m =>
    rw [hr] at hv
    have HC := Lib.hid hv
    have hko := kok_of_valid i 1 4096 m hr
    have HW := Lib.hid (fun (w : World) (hb : Below W.heap.size W w) => rw_all i hko c0 c1 c2 c3 w B (Nat.le_trans hB hb.size) (hkeep w hb))
    have HY := Lib.hid (fun (w : World) (hb : Below Wb.heap.size Wb w) (o : Nat) => Below.cell (p := ⟨W.heap.size, o, none⟩) hb (show W.heap.size < Wb.heap.size by have := HS.out; omega))
    have HB := Lib.hid (fun (w : World) (hb : Below Wb.heap.size Wb w) => hbW.trans (hb.mono (show W.heap.size ≤ Wb.heap.size by have := HS.out; omega)))
    have HP : ∀ s, Wp.rWrite i = some s → (if (some m).isSome then Wp.rWrite i else none) = some s := fun s h => by simpa using h
    have HN : Wp.rWrite i = none → (if (some m).isSome then Wp.rWrite i else none) = none := fun h => by simpa using h
    have HP := Lib.hid HP
    have HN := Lib.hid HN
    clear hv hr hkeep hko
    cases hw : Wp.rWrite i with
    | none =>
      rw [hw] at HW HN
      have HNO := Lib.hid (HN.out rfl)
      clear HP HN hw
      go_enter Tryd.func7, Tryd.ntmps7
      go_wp2_with (first | (go_at_call 11; (refine (HC.out).mono ?_); rintro e W2 ⟨b2, rfl⟩; have z0 := (HY.out _ b2 0).trans y0; have z1 := (HY.out _ b2 1).trans y1; have z2 := (HY.out _ b2 2).trans y2; have z3 := (HY.out _ b2 3).trans y3) | (go_at_call 12; (refine (HW.out _ (HB.out _ b2)).mono ?_); rintro e W3 ⟨b3, s3, rfl⟩))
      go_ret2
      exact rwp_none (s := []) HNO.out ((HB.out _ b2).trans (b3.mono (by have := HS.out; have := b2.size; omega)))
    | some s =>
      rw [hw] at HW HP
      have HNO := Lib.hid (HP.out s rfl)
      clear HP HN hw
      go_enter Tryd.func7, Tryd.ntmps7
      go_wp2_with (first | (go_at_call 11; (refine (HC.out).mono ?_); rintro e W2 ⟨b2, rfl⟩; have z0 := (HY.out _ b2 0).trans y0; have z1 := (HY.out _ b2 1).trans y1; have z2 := (HY.out _ b2 2).trans y2; have z3 := (HY.out _ b2 3).trans y3) | (go_at_call 12; (refine (HW.out _ (HB.out _ b2)).mono ?_); rintro e W3 ⟨b3, rfl⟩))
      go_ret2
      exact rwp_some HNO.out ((HB.out _ b2).trans (b3.mono (by have := HS.out; have := b2.size; omega)))
end Go.Proofs.YtonkkojankmhbaaDoor
