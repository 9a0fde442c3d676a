import Derived.Test.YtonkkojankmhbaaDoorVa
import Derived.Test.YtonkkojankmhbaaDoorRw
namespace Go.Proofs.YtonkkojankmhbaaDoor
open Go.RowKit
open Wp (It)

/-- the bytes' check -/
def vfD (l : List UInt8) : Bool := Lib.validD l

theorem get_list (l : List UInt8) (j : Nat) (h : j < l.length) : (ByteArray.mk l.toArray).get! j = l[j] := by
  rw [← Lib.getD_get!']
  simp [List.getD_eq_getElem?_getD, h]

theorem size_list (l : List UInt8) : (ByteArray.mk l.toArray).size = l.length := by simp [ByteArray.size]

theorem reads_spot {w : World} {B : Nat} {A : Option Addr} {l : List UInt8} (h : Reads w B 1 A l.length (l.map bv)) : VB w B A ⟨l.toArray⟩ := by
  intro h0
  rw [size_list] at h0
  obtain ⟨ad, e, hB, hc⟩ := h.2 h0
  obtain ⟨g, o, sp⟩ := ad
  have h00 := hc 0 (bv l[0]) (by rw [List.getElem?_map, List.getElem?_eq_getElem h0]; rfl)
  have hsp : sp = none := by
    have := World.cell?_spot h00
    simpa [Addr.add] using this
  subst hsp
  refine ⟨g, o, e, hB, fun j hj => ?_⟩
  rw [size_list] at hj
  have := hc j (bv l[j]) (by rw [List.getElem?_map, List.getElem?_eq_getElem hj]; rfl)
  rw [addr_add] at this
  rw [this, get_list l j hj]
  rfl

theorem valid_at (A : Option Addr) (l : List UInt8) (n c : Nat) (B : Nat) (w : World) (hn : n = l.length) (hs : l.length ≤ 1048576) (hsc : l.length ≤ c) (hcm : c ≤ 9223372036854775807) (hB : B ≤ w.heap.size) (hA : Reads w B 1 A l.length (l.map bv)) (hT : Lib.Utf8Tabs 0 1 w) :
    Calls Tryd.prog 19 #[.slice A n c] w fun e w' => e = .returned (.bool (vfD l)) ∧ Below w.heap.size w w' := by
  have := valid_any A ⟨l.toArray⟩ c B w (by rw [size_list]; exact hs) (by rw [size_list]; exact hsc) hcm hB (reads_spot hA) hT
  rw [size_list] at this
  subst hn
  exact this
end Go.Proofs.YtonkkojankmhbaaDoor
