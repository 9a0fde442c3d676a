import Derived.Test.YtonkkojankmhbaaDoorHead
import Derived.Shelf.Unicode.DecodeSlow
namespace Go.Proofs.YtonkkojankmhbaaDoor
open Go.RowKit
open Wp (It)

mutual
/-- the four cells of an item -/
def ItAt (w : World) (B : Nat) : It → List Value → Prop
  | .mk k n d l, cs => ∃ A c A2 c2 cells, cs = [.int .i64 k, .int .u64 (n : Int), .slice A d.length c, .slice A2 l.length c2] ∧ Reads w B 1 A d.length (d.map bv) ∧ Reads w B 4 A2 l.length cells ∧
      ItsAt w B l cells ∧ n < 18446744073709551616 ∧ d.length ≤ 1048576 ∧ l.length ≤ 1048576 ∧ (d.length ≤ c ∧ c ≤ 9223372036854775807 ∧ 2 ≤ B ∧ Lib.Utf8Tabs 0 1 w)
/-- the cells of items -/
def ItsAt (w : World) (B : Nat) : List It → List Value → Prop
  | [], cells => cells = []
  | i :: r, cells => ∃ c cs, cells = c ++ cs ∧ c.length = 4 ∧ ItAt w B i c ∧ ItsAt w B r cs
end

theorem tabs_keep {w w' : World} {B : Nat} (hB : 2 ≤ B) (h : Lib.Utf8Tabs 0 1 w) (hk : ∀ p : Addr, p.block < B → w'.cell? p = w.cell? p) : Lib.Utf8Tabs 0 1 w' :=
  ⟨fun c hc => (hk ⟨0, c, none⟩ (by show 0 < B; omega)).trans (h.1 c hc), fun i hi => ⟨(hk ⟨1, 2 * i, none⟩ (by show 1 < B; omega)).trans (h.2 i hi).1, (hk ⟨1, 2 * i + 1, none⟩ (by show 1 < B; omega)).trans (h.2 i hi).2⟩⟩

mutual
theorem ItAt.keep {w w' : World} {B : Nat} (hk : ∀ p : Addr, p.block < B → w'.cell? p = w.cell? p) : ∀ (i : It) (cs : List Value), ItAt w B i cs → ItAt w' B i cs
  | .mk k n d l, cs, h => by
    simp only [ItAt] at h ⊢
    obtain ⟨A, c, A2, c2, cells, h1, h2, h3, h4, h5, h6, h7, h8, h9, ha, hb⟩ := h
    exact ⟨A, c, A2, c2, cells, h1, h2.keep hk, h3.keep hk, ItsAt.keep hk l cells h4, h5, h6, h7, h8, h9, ha, tabs_keep ha hb hk⟩
theorem ItsAt.keep {w w' : World} {B : Nat} (hk : ∀ p : Addr, p.block < B → w'.cell? p = w.cell? p) : ∀ (l : List It) (cs : List Value), ItsAt w B l cs → ItsAt w' B l cs
  | [], cs, h => by simp only [ItsAt] at h ⊢; exact h
  | i :: r, cs, h => by
    simp only [ItsAt] at h ⊢
    obtain ⟨c, cs', h1, h2, h3, h4⟩ := h
    exact ⟨c, cs', h1, h2, ItAt.keep hk i c h3, ItsAt.keep hk r cs' h4⟩
end
mutual
theorem ItAt.more {w : World} {B B' : Nat} (hB : B ≤ B') : ∀ (i : It) (cs : List Value), ItAt w B i cs → ItAt w B' i cs
  | .mk k n d l, cs, h => by
    simp only [ItAt] at h ⊢
    obtain ⟨A, c, A2, c2, cells, h1, h2, h3, h4, h5, h6, h7, h8, h9, ha, hb⟩ := h
    exact ⟨A, c, A2, c2, cells, h1, h2.more hB, h3.more hB, ItsAt.more hB l cells h4, h5, h6, h7, h8, h9, by omega, hb⟩
theorem ItsAt.more {w : World} {B B' : Nat} (hB : B ≤ B') : ∀ (l : List It) (cs : List Value), ItsAt w B l cs → ItsAt w B' l cs
  | [], cs, h => by simp only [ItsAt] at h ⊢; exact h
  | i :: r, cs, h => by
    simp only [ItsAt] at h ⊢
    obtain ⟨c, cs', h1, h2, h3, h4⟩ := h
    exact ⟨c, cs', h1, h2, ItAt.more hB i c h3, ItsAt.more hB r cs' h4⟩
end

/-- A pointer to an item. -/
def PtrIt (w : World) (B : Nat) (i : It) (g o : Nat) : Prop := g < B ∧ ∃ cs, ItAt w B i cs ∧ ∀ j, j < 4 → w.cell? ⟨g, o + j, none⟩ = cs[j]?

theorem PtrIt.below {w w' : World} {B : Nat} {i : It} {g o : Nat} (h : PtrIt w B i g o) (hb : Below B w w') : PtrIt w' B i g o := by
  obtain ⟨hg, cs, h1, h2⟩ := h
  exact ⟨hg, cs, ItAt.keep (fun p hp => hb.cell hp) i cs h1, fun j hj => (hb.cell (p := ⟨g, o + j, none⟩) hg).trans (h2 j hj)⟩

structure ItCells (w : World) (B : Nat) (k : Int) (n : Nat) (d : List UInt8) (l : List It) (g o : Nat) (A : Option Addr) (c : Nat) (A2 : Option Addr) (c2 : Nat) (cells : List Value) : Prop where
  f0 : w.cell? ⟨g, o, none⟩ = some (.int .i64 k)
  f1 : w.cell? ⟨g, o + 1, none⟩ = some (.int .u64 (n : Int))
  f2 : w.cell? ⟨g, o + 2, none⟩ = some (.slice A d.length c)
  f3 : w.cell? ⟨g, o + 3, none⟩ = some (.slice A2 l.length c2)
  dr : Reads w B 1 A d.length (d.map bv)
  lr : Reads w B 4 A2 l.length cells
  li : ItsAt w B l cells
  nb : n < 18446744073709551616
  db : d.length ≤ 1048576
  lb : l.length ≤ 1048576
  gb : g < B
  dc : d.length ≤ c ∧ c ≤ 9223372036854775807 ∧ 2 ≤ B ∧ Lib.Utf8Tabs 0 1 w

theorem PtrIt.cells {w : World} {B : Nat} {k : Int} {n : Nat} {d : List UInt8} {l : List It} {g o : Nat} (h : PtrIt w B (.mk k n d l) g o) : ∃ A c A2 c2 cells, ItCells w B k n d l g o A c A2 c2 cells := by
  obtain ⟨hg, cs, h1, h2⟩ := h
  simp only [ItAt] at h1
  obtain ⟨A, c, A2, c2, cells, rfl, h3, h4, h5, h6, h7, h8, h9⟩ := h1
  exact ⟨A, c, A2, c2, cells, ⟨h2 0 (by omega), h2 1 (by omega), h2 2 (by omega), h2 3 (by omega), h3, h4, h5, h6, h7, h8, hg, h9⟩⟩

theorem ItCells.below {w w' : World} {B : Nat} {k : Int} {n : Nat} {d : List UInt8} {l : List It} {g o : Nat} {A : Option Addr} {c : Nat} {A2 : Option Addr} {c2 : Nat} {cells : List Value}
    (h : ItCells w B k n d l g o A c A2 c2 cells) (hb : Below B w w') : ItCells w' B k n d l g o A c A2 c2 cells :=
  ⟨(hb.cell (p := ⟨g, o, none⟩) h.gb).trans h.f0, (hb.cell (p := ⟨g, o + 1, none⟩) h.gb).trans h.f1, (hb.cell (p := ⟨g, o + 2, none⟩) h.gb).trans h.f2, (hb.cell (p := ⟨g, o + 3, none⟩) h.gb).trans h.f3,
    h.dr.below hb, h.lr.below hb, ItsAt.keep (fun p hp => hb.cell hp) l cells h.li, h.nb, h.db, h.lb, h.gb, h.dc.1, h.dc.2.1, h.dc.2.2.1, tabs_keep h.dc.2.2.1 h.dc.2.2.2 (fun p hp => hb.cell hp)⟩
end Go.Proofs.YtonkkojankmhbaaDoor
