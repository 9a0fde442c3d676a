import Derived.Test.YtonkkojankmhbaaDoorList
namespace Go.Proofs.YtonkkojankmhbaaDoor
open Go.RowKit
open Wp (It)

/-! plain facts -/
mutual
theorem rValid_le (vf : List UInt8 → Bool) : ∀ (i : It) (deep : Nat) (left : Int) (m : Nat), Wp.rValid vf i deep left = some m → (m : Int) ≤ left ∧ 1 ≤ m
  | .mk k n d l, deep, left, m, h => by
    simp only [Wp.rValid] at h
    split at h
    · cases h
    · split at h
      · have := rValidL_le vf l (deep + 1) left 1 m (by omega) h
        omega
      · cases h
theorem rValidL_le (vf : List UInt8 → Bool) : ∀ (l : List It) (deep : Nat) (left : Int) (n m : Nat), (n : Int) ≤ left → Wp.rValidL vf l deep left n = some m → (m : Int) ≤ left ∧ n ≤ m
  | [], deep, left, n, m, hn, h => by simp only [Wp.rValidL, Option.some.injEq] at h; omega
  | i :: r, deep, left, n, m, hn, h => by
    simp only [Wp.rValidL] at h
    cases hi : Wp.rValid vf i deep (left - n) with
    | none => rw [hi] at h; cases h
    | some q =>
      rw [hi] at h
      have h1 := rValid_le vf i deep (left - n) q hi
      have h2 := rValidL_le vf r deep left (n + q) m (by omega) h
      omega
end
theorem rWrite_pos : ∀ (i : It) (s : List UInt8), Wp.rWrite i = some s → 1 ≤ s.length
  | .mk k n d l, s, h => by
    have h1 := Wp.headB_length k.toNat n
    have h2 := Wp.headB_length k.toNat d.length
    have h3 := Wp.headB_length k.toNat (if k == 5 then l.length / 2 else l.length)
    simp only [Wp.rWrite] at h
    split at h
    · cases h; omega
    · split at h
      · split at h
        · cases h; simp only [List.length_append]; omega
        · cases h
      · have := Wp.rWriteL_long _ _ _ _ _ _ h
        omega
theorem pItem_bounds {vf : List UInt8 → Bool} {i : It} {deep : Nat} {left left' : Int} {b b' : List UInt8} (h : Wp.pItem vf i deep left b = some (left', b')) :
    0 ≤ left' ∧ left' ≤ left ∧ b'.length ≤ 65536 ∧ ∃ s, b' = b ++ s ∧ s ≠ [] := by
  rw [Wp.pItem_eq] at h
  unfold Wp.both at h
  split at h
  · rename_i m s hv hs
    split at h
    · simp only [Option.some.injEq, Prod.mk.injEq] at h
      obtain ⟨rfl, rfl⟩ := h
      have h1 := rValid_le vf i deep left m hv
      refine ⟨by omega, by omega, by rw [List.length_append]; omega, s, rfl, ?_⟩
      rintro rfl
      have := rWrite_pos i _ hs
      simp at this
    · cases h
  · cases h

def ItemOK (vf : List UInt8 → Bool) (i : It) : Prop := ∀ (base bw g o B : Nat) (W : World) (left : Int) (deep : Nat) (v : Value) (bs : List UInt8), WS W base bw left v bs → 0 ≤ left → left ≤ 4096 → deep ≤ 17 → B ≤ base → base ≤ W.heap.size → bs.length ≤ 65536 + 9 * deep →
    PtrIt W B i g o → Calls Tryd.prog 10 #[.pointer (some ⟨bw, 0, none⟩), .pointer (some ⟨g, o, none⟩), .int .i64 deep] W (ItemPost W base bw v bs (Wp.pItem vf i deep left bs))

theorem ItsAt.nth {w : World} {B : Nat} : ∀ (l : List It) (cells : List Value), ItsAt w B l cells → ∀ q (hq : q < l.length), ∃ c, ItAt w B l[q] c ∧ c.length = 4 ∧ ∀ j, j < 4 → cells[q * 4 + j]? = c[j]?
  | [], _, _, q, hq => by simp at hq
  | i :: r, cells, h, q, hq => by
    simp only [ItsAt] at h
    obtain ⟨c, cs, rfl, hc, h1, h2⟩ := h
    cases q with
    | zero => exact ⟨c, h1, hc, fun j hj => by rw [List.getElem?_append_left (by omega)]; simp⟩
    | succ q =>
      obtain ⟨c', h3, h4, h5⟩ := ItsAt.nth r cs h2 q (by simpa using hq)
      refine ⟨c', by simpa using h3, h4, fun j hj => ?_⟩
      rw [List.getElem?_append_right (by omega), ← h5 j hj]
      congr 1
      omega

theorem ItCells.nth {w : World} {B : Nat} {k : Int} {n : Nat} {d : List UInt8} {l : List It} {g o : Nat} {A : Option Addr} {c : Nat} {A2 : Option Addr} {c2 : Nat} {cells : List Value}
    (h : ItCells w B k n d l g o A c A2 c2 cells) (q : Nat) (hq : q < l.length) : ∃ g2 o2, A2 = some ⟨g2, o2, none⟩ ∧ PtrIt w B l[q] g2 (o2 + q * 4) := by
  obtain ⟨ad, e, hb, hc⟩ := h.lr.2 (by omega)
  obtain ⟨cq, h1, h2, h3⟩ := ItsAt.nth l cells h.li q hq
  obtain ⟨g2, o2, sp⟩ := ad
  have h0 := h3 0 (by omega)
  have hq0 : cells[q * 4 + 0]? = some cq[0] := by rw [h0]; exact List.getElem?_eq_getElem (by omega)
  have hcell := hc _ _ hq0
  have hsp : sp = none := by
    rcases Nat.eq_zero_or_pos q with h0 | h0
    · subst h0
      have := World.cell?_spot hcell
      simpa [Addr.add] using this
    · have h30 := (ItsAt.nth l cells h.li 0 (by omega))
      obtain ⟨c0, _, hl0, h00⟩ := h30
      have hz : cells[0]? = some c0[0] := by have := h00 0 (by omega); simp only [Nat.zero_mul, Nat.zero_add] at this; rw [this]; exact List.getElem?_eq_getElem (by omega)
      have := World.cell?_spot (hc _ _ hz)
      simpa [Addr.add] using this
  subst hsp
  refine ⟨g2, o2, e, hb, cq, h1, fun j hj => ?_⟩
  have hj' : cells[q * 4 + j]? = some cq[j] := by rw [h3 j hj]; exact List.getElem?_eq_getElem (by omega)
  have := hc _ _ hj'
  rw [addr_add] at this
  rw [Nat.add_assoc, this]
  exact (List.getElem?_eq_getElem (by omega)).symm
end Go.Proofs.YtonkkojankmhbaaDoor
