import Derived.Test.YtonkkojankmhbaaDoorRh
import Derived.Test.YtonkkojankmhbaaDoorLs
import Derived.Deep.DeepCutAuto
namespace Go.Proofs.YtonkkojankmhbaaDoor
open Go.RowKit
open Wp (It)

mutual
def kok : It → Prop
  | .mk k _ _ l => (0 ≤ k ∧ k ≤ 7) ∧ kokL l
def kokL : List It → Prop
  | [] => True
  | i :: r => kok i ∧ kokL r
end
theorem kokL_mem : ∀ (l : List It), kokL l → ∀ i ∈ l, kok i
  | [], _, i, hi => by simp at hi
  | i :: r, h, j, hj => by
    simp only [kokL] at h
    rcases List.mem_cons.1 hj with rfl | hj
    · exact h.1
    · exact kokL_mem r h.2 j hj

def RwPost (W : World) (r : Option (List UInt8)) (e : Ending) (w' : World) : Prop :=
  Below W.heap.size W w' ∧ match r with
    | some s => e = .returned (.tuple #[strV s, .bool true])
    | none => ∃ s, e = .returned (.tuple #[strV s, .bool false])

theorem rwp_some {W W' : World} {R : Option (List UInt8)} {s : List UInt8} (h : R = some s) (hb : Below W.heap.size W W') : RwPost W R (.returned (.tuple #[strV s, .bool true])) W' := by
  subst h; exact ⟨hb, rfl⟩
theorem rwp_none {W W' : World} {R : Option (List UInt8)} {s : List UInt8} (h : R = none) (hb : Below W.heap.size W W') : RwPost W R (.returned (.tuple #[strV s, .bool false])) W' := by
  subst h; exact ⟨hb, s, rfl⟩
def RwOK (i : It) : Prop := ∀ (c0 c1 c2 c3 : Value) (W : World) (B : Nat), B ≤ W.heap.size → ItAt W B i [c0, c1, c2, c3] → Calls Tryd.prog 12 #[.agg #[c0, c1, c2, c3]] W (RwPost W (Wp.rWrite i))

theorem lexLt_len : True := trivial
mutual
theorem rWrite_le : ∀ (i : It) (s : List UInt8), Wp.rWrite i = some s → s.length ≤ 65536
  | .mk k n d l, s, h => by
    have h1 := Wp.headB_length k.toNat n
    have h3 := Wp.headB_length k.toNat (if k == 5 then l.length / 2 else l.length)
    simp only [Wp.rWrite] at h
    split at h
    · cases h; omega
    · split at h
      · split at h
        · cases h; assumption
        · cases h
      · exact rWriteL_le (k == 5) l 0 _ _ s (by omega) h
theorem rWriteL_le (keyed : Bool) : ∀ (l : List It) (q : Nat) (out last s : List UInt8), out.length ≤ 65536 → Wp.rWriteL keyed q l out last = some s → s.length ≤ 65536
  | [], q, out, last, s, ho, h => by simp only [Wp.rWriteL, Option.some.injEq] at h; subst h; exact ho
  | i :: r, q, out, last, s, ho, h => by
    simp only [Wp.rWriteL] at h
    cases hi : Wp.rWrite i with
    | none => rw [hi] at h; cases h
    | some t =>
      rw [hi] at h
      simp only at h
      split at h
      · cases h
      · rename_i hle
        have ho2 : (out ++ t).length ≤ 65536 := by rw [List.length_append]; omega
        split at h
        · split at h
          · cases h
          · exact rWriteL_le keyed r (q + 1) _ _ s ho2 h
        · exact rWriteL_le keyed r (q + 1) _ _ s ho2 h
end

theorem below_box (W : World) (o : Obj) : Below W.heap.size W (W.alloc o) := (Below.refl _ W).alloc (Nat.le_refl _) o

/-- The boxed item. -/
theorem boxed (W : World) (B : Nat) (hB : B ≤ W.heap.size) (k : Int) (n : Nat) (d : List UInt8) (l : List It) (c0 c1 c2 c3 : Value) (h : ItAt W B (.mk k n d l) [c0, c1, c2, c3]) :
    ∃ Wb A c A2 c2' cells, W.alloc (.cells #[c0, c1, c2, c3] 31) = Wb ∧ c0 = .int .i64 k ∧ c1 = .int .u64 n ∧ c2 = .slice A d.length c ∧ c3 = .slice A2 l.length c2' ∧ Below W.heap.size W Wb ∧ Wb.heap.size = W.heap.size + 1 ∧
      ItCells Wb Wb.heap.size k n d l W.heap.size 0 A c A2 c2' cells := by
  have hp : PtrIt (W.alloc (.cells #[c0, c1, c2, c3] 31)) (W.alloc (.cells #[c0, c1, c2, c3] 31)).heap.size (.mk k n d l) W.heap.size 0 := by
    refine ⟨by simp, [c0, c1, c2, c3], ItAt.more (by simp; omega) _ _ (ItAt.keep (fun p hp => (below_box W _).cell (by omega)) _ _ h), fun j hj => ?_⟩
    have hb : (W.alloc (.cells #[c0, c1, c2, c3] 31)).heap[W.heap.size]? = some (.cells #[c0, c1, c2, c3] 31 (0, 0)) := heap_alloc_new W _
    have := Blk.cell (t := 31) hb j
    rw [Nat.zero_add, this]
    simp
  simp only [ItAt] at h
  obtain ⟨A, c, A2, c2', cells, h1, h3, h4, h5, h6, h7, h8, h9⟩ := h
  simp only [List.cons.injEq, and_true] at h1
  obtain ⟨rfl, rfl, rfl, rfl⟩ := h1
  refine ⟨_, A, c, A2, c2', cells, rfl, rfl, rfl, rfl, rfl, below_box W _, by simp, ?_⟩
  have g := hp.2
  obtain ⟨cs, hi, hc⟩ := g
  have hk : ∀ p : Addr, p.block < B → (W.alloc (.cells #[.int .i64 k, .int .u64 n, .slice A d.length c, .slice A2 l.length c2'] 31)).cell? p = W.cell? p := fun p hp => (below_box W _).cell (by omega)
  have hb : (W.alloc (.cells #[.int .i64 k, .int .u64 n, .slice A d.length c, .slice A2 l.length c2'] 31)).heap[W.heap.size]? = some (.cells #[.int .i64 k, .int .u64 n, .slice A d.length c, .slice A2 l.length c2'] 31 (0, 0)) := heap_alloc_new W _
  refine ⟨Blk.cell (t := 31) hb 0, Blk.cell (t := 31) hb 1, Blk.cell (t := 31) hb 2, Blk.cell (t := 31) hb 3, (h3.keep hk).more (by simp; omega), (h4.keep hk).more (by simp; omega), ItsAt.more (by simp; omega) l cells (ItsAt.keep hk l cells h5), h6, h7, h8, by simp, h9.1, h9.2.1, by simp; omega, tabs_keep h9.2.2.1 h9.2.2.2 hk⟩

theorem rhead_at (z : Int) (kind n : Nat) (m : Int) (hz : z = (kind : Int)) (hm : m = (n : Int)) (w : World) (hk : kind < 8) (hn : n < 18446744073709551616) :
    Calls Tryd.prog 20 #[.int .i64 z, .int .u64 m] w fun e w' => e = .returned (strV (Wp.headB kind n)) ∧ Below w.heap.size w w' := by
  subst hz hm; exact rhead_any kind n w hk hn

set_option maxRecDepth 100000 in
set_option maxHeartbeats 4000000 in
theorem rw_num (k : Int) (n : Nat) (d : List UInt8) (l : List It) (hk : k = 0 ∨ k = 1 ∨ k = 7) (c0 c1 c2 c3 : Value) (W : World) (B : Nat) (hB : B ≤ W.heap.size) (hi : ItAt W B (.mk k n d l) [c0, c1, c2, c3]) :
    Calls Tryd.prog 12 #[.agg #[c0, c1, c2, c3]] W (RwPost W (some (Wp.headB k.toNat n))) := by
  obtain ⟨Wb, A, c, A2, c2', cells, hWb, rfl, rfl, rfl, rfl, hbW, hsz, ic⟩ := boxed W B hB k n d l c0 c1 c2 c3 hi
  have g0 := ic.f0
  have g1 := ic.f1
  have HC := Lib.hid (fun w => rhead_at k k.toNat n n (by omega) rfl w (by omega) ic.nb)
  have HS := Lib.hid hsz
  have hkk : (k == 0) = true ∨ (k == 1) = true ∨ (k == 7) = true := by simpa using hk
  clear hi hsz
  rcases hk with rfl | rfl | rfl <;>
  · go_enter Tryd.func12, Tryd.ntmps12
    go_wp2_with (go_at_call 20; (refine (HC.out _).mono ?_); rintro e W2 ⟨rfl, b2⟩)
    go_ret2
    exact ⟨hbW.trans (b2.mono (by have := HS.out; omega)), rfl⟩

theorem conv_data {W : World} {B : Nat} {A : Option Addr} {c : Nat} {d : List UInt8} (h : Reads W B 1 A d.length (d.map bv)) (W' : World) (hb : Below B W W') :
    (convert 24 9 (.slice A d.length c)).run Tryd.prog W' = .ok (strV d) W' := by
  cases d with
  | nil =>
    rw [run_convert_bytes_string W' 24 9 5 A _ c Tryd.underlying24 Tryd.underlying5 Tryd.underlying9]
    cases A <;> rfl
  | cons x r =>
    obtain ⟨ad, rfl, hB, hc⟩ := h.2 (by simp)
    refine run_convert_bytes_back (P := Tryd.prog) W' 24 9 5 ad c (x :: r) Tryd.underlying24 Tryd.underlying5 Tryd.underlying9 (fun j hj => ?_)
    have := hc j (bv (x :: r)[j]) (by rw [List.getElem?_map, List.getElem?_eq_getElem hj]; rfl)
    exact (hb.cell (p := ad.add j) (by unfold Addr.add; split <;> exact hB)).trans this
theorem len_S (x : List UInt8) (N : Nat) (hN : x.length = N) (W : World) : (Builtin.len_ #[9] 3 #[strV x]).run Tryd.prog W = .ok (.int .i64 (N : Int)) W := by
  subst hN
  have := Tryd.underlying9
  simp [Builtin.len_, strV, this]
  rfl

set_option maxRecDepth 100000 in
set_option maxHeartbeats 4000000 in
theorem rw_data (k : Int) (n : Nat) (d : List UInt8) (l : List It) (hk : k = 2 ∨ k = 3) (c0 c1 c2 c3 : Value) (W : World) (B : Nat) (hB : B ≤ W.heap.size) (hi : ItAt W B (.mk k n d l) [c0, c1, c2, c3]) :
    Calls Tryd.prog 12 #[.agg #[c0, c1, c2, c3]] W (RwPost W (if (Wp.headB k.toNat d.length ++ d).length ≤ 65536 then some (Wp.headB k.toNat d.length ++ d) else none)) := by
  obtain ⟨Wb, A, c, A2, c2', cells, hWb, rfl, rfl, rfl, rfl, hbW, hsz, ic⟩ := boxed W B hB k n d l c0 c1 c2 c3 hi
  have g0 := ic.f0
  have g1 := ic.f1
  have g2 := ic.f2
  have hdb := ic.db
  have HC := fun w => rhead_at k k.toNat d.length d.length (by omega) rfl w (by omega) (by have := ic.db; omega)
  have hadd := run_addS (Wp.headB k.toNat d.length) d (by have := headB_len k.toNat d.length; omega)
  have hlen := headB_len k.toNat d.length
  generalize Wp.headB k.toNat d.length = hb at *
  have HC := Lib.hid HC
  have HS := Lib.hid hsz
  have hwu : IntKind.u64.wrap (d.length : Int) = (d.length : Int) := u64_len _ (by omega)
  obtain ⟨R, hR⟩ : ∃ R, (if (hb ++ d).length ≤ 65536 then some (hb ++ d) else none) = R := ⟨_, rfl⟩
  rw [hR]
  have HR := Lib.hid hR
  obtain ⟨N, hN⟩ : ∃ N, (hb ++ d).length = N := ⟨_, rfl⟩
  have hlS := len_S (hb ++ d) N hN
  clear hi hsz hR
  rcases hk with rfl | rfl <;>
  · go_enter Tryd.func12, Tryd.ntmps12
    have cv0 := conv_data (c := c) ic.dr Wb.drew (Below.refl _ _).drew
    go_upto_region 4 with fail
    go_cut [4] (fun s4 wx => s4 = strV (hb ++ d) ∧ Below Wb.heap.size Wb wx)
    case first =>
      go_region_with (go_at_call 20; (refine (HC.out _).mono ?_); rintro e W2 ⟨rfl, b2⟩; have bb : Below Wb.heap.size Wb W2 := (Below.refl _ _).drew.trans b2; have cv2 := conv_data (c := c) ic.dr _ bb; have q2 : W2.cell? ⟨W.heap.size, 2, none⟩ = _ := (ic.below bb).f2)
      all_goals (go_wp2_with fail; go_meet; exact ⟨rfl, by first | exact (Below.refl _ _).drew.trans b2 | exact ((Below.refl _ _).drew.trans b2).drew⟩)
    case rest =>
      obtain ⟨rfl, hbc⟩ := hcut
      by_cases hNb : N ≤ 65536
      · have hNz : (N : Int) ≤ 65536 := by omega
        go_wp2
        go_ret2
        exact rwp_some (s := hb ++ d) (by have := HR.out; rw [hN, if_pos hNb] at this; exact this.symm) (hbW.trans (hbc.mono (by have := HS.out; omega)))
      · have hNz : ¬ (N : Int) ≤ 65536 := by omega
        go_wp2
        go_ret2
        exact rwp_none (s := hb ++ d) (by have := HR.out; rw [hN, if_neg hNb] at this; exact this.symm) (hbW.trans (hbc.mono (by have := HS.out; omega)))
end Go.Proofs.YtonkkojankmhbaaDoor
