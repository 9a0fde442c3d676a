import Derived.Test.YtonkkojankmhbaaDoorWr
import Derived.Deep.RegionLaw
import Derived.Deep.LoopGhost
import Derived.Lib.Hide
import Derived.BigRegion
namespace Go.Proofs.YtonkkojankmhbaaDoor
open Go.RowKit

theorem info5 : (Tryd.prog.info? 5).map (fun i => (i.zero, i.size, i.bytes)) = some (some (.int .u8 0), 1, 1) := by kernel_rfl

theorem reads_new (w : World) (x : Value) (t : TypeId) : Reads (w.alloc (.cells #[x] t)) (w.heap.size + 1) 1 (some ⟨w.heap.size, 0, none⟩) 1 [x] :=
  ⟨rfl, fun _ => ⟨_, rfl, Nat.lt_succ_self _, cell_one_new w x t⟩⟩

theorem one_int (k : IntKind) (x : Int) : ∀ u ∈ [Value.int k x], u.oneCell' = true := by
  intro u hu
  simp at hu
  subst hu
  rfl
theorem own_slice {W : World} {base size n : Nat} {e : TypeId} {v : Value} {xs : List Value} (h : W.ownsRow base e size v n xs) : ∃ A c, v = .slice A n c := by
  rcases h.2 with ⟨rfl, rfl⟩ | ⟨g, cap, cur, rfl, _⟩
  · exact ⟨_, _, rfl⟩
  · exact ⟨_, _, rfl⟩
theorem u8_wrap_nat (n : Nat) : IntKind.u8.wrap (n : Int) = ((UInt8.ofNat n).toNat : Int) := by
  simp [IntKind.wrap, IntKind.bits, IntKind.signed]
theorem byte_of_shift (n m : Nat) : Value.int .u8 (IntKind.u8.wrap ((n : Int) / 2 ^ (8 * (m : Int)).toNat)) = bv (UInt8.ofNat (n >>> (8 * m))) := by
  have e : (8 * (m : Int)).toNat = 8 * m := by omega
  rw [e, Nat.shiftRight_eq_div_pow, bv, ← u8_wrap_nat]
  simp
theorem below_new (w : World) (o : Obj) : Below w.heap.size w (w.drew.alloc o) := ((Below.refl _ w).drew).alloc (Nat.le_refl _) o
theorem WS.blk2 {W W0 w1 : World} {base bw : Nat} {left : Int} {v v' : Value} {bs : List UInt8} (h : WS W base bw left v bs) (h0 : Below W.heap.size W W0) (hg : Grew W0 v w1 v') :
    w1.heap[bw]? = some (.cells #[.int .i64 left, v] 41 (0, 0)) :=
  ((hg.gb.block bw (by have := h0.size; have := h.lt; omega) (fun e => own_not_bw h.blk h.own e.symm)).trans (h0.block bw h.lt)).trans h.blk
theorem WS.cell2 {W W0 w1 : World} {base bw : Nat} {left : Int} {v v' : Value} {bs : List UInt8} (h : WS W base bw left v bs) (h0 : Below W.heap.size W W0) (hg : Grew W0 v w1 v') :
    w1.cell? ⟨bw, 1, none⟩ = some v := Blk.cell (t := 41) (h.blk2 h0 hg) 1
theorem WS.froz2 {W W0 w1 : World} {base bw : Nat} {left : Int} {v v' : Value} {bs : List UInt8} (h : WS W base bw left v bs) (h0 : Below W.heap.size W W0) (hg : Grew W0 v w1 v') :
    w1.frozen? ⟨bw, 1, none⟩ = false := Blk.frozen (h.blk2 h0 hg) 1
set_option maxHeartbeats 1000000 in
theorem number_any (base bw n : Nat) (size : Nat) (W : World) (left : Int) (v : Value) (bs : List UInt8) (hw : WS W base bw left v bs) (hs : base ≤ W.heap.size) (hsz : size ≤ 8) (hn : n < 18446744073709551616) (hl : bs.length ≤ 1000000) :
    Calls Tryd.prog 25 #[.pointer (some ⟨bw, 0, none⟩), .int .u64 n, .int .i64 size] W fun e W' =>
      e = .returned (.tuple #[]) ∧ ∃ v', WS W' base bw left v' (bs ++ Wp.beN n size) ∧ Adv W bw v bs.length W' v' := by
  obtain ⟨i0, hi0, hz0, hz1, hz2⟩ := info_parts info5
  go_enter Tryd.func25, Tryd.ntmps25
  go_wp2
  go_loopw [2] (fun s wr => ∃ (k : Nat) (v1 : Value) (bs1 : List UInt8), k ≤ size ∧ s = .int .i64 ((k : Int) - 1) ∧ WS wr base bw left v1 bs1 ∧ Adv W bw v bs.length wr v1 ∧ bs1 ++ Wp.beN n k = bs ++ Wp.beN n size)
    (fun s _ => (intOf s + 1).toNat)
  case atStart => exact ⟨size, v, bs, Nat.le_refl _, rfl, hw, Adv.refl _ _ _ _, rfl⟩
  case round =>
    obtain ⟨k, v1, bs1, hk, rfl, hw1, ha1, he⟩ := hrel
    have hbl : bs1.length ≤ 1000008 := by
      have := congrArg List.length he
      simp only [List.length_append, Wp.beN_length] at this
      omega
    have hle : bs.length ≤ bs1.length := by
      have := congrArg List.length he
      simp only [List.length_append, Wp.beN_length] at this
      omega
    have HE := Lib.hid he
    clear he
    rcases Nat.eq_zero_or_pos k with hk0 | hk0
    · subst hk0
      go_wp2
      go_end0
      exact ⟨rfl, _, by simpa [Wp.beN] using (by have := HE.out; simp [Wp.beN] at this; rw [← this]; exact hw1), ha1⟩
    · obtain ⟨m, rfl⟩ : ∃ m, k = m + 1 := ⟨k - 1, by omega⟩
      have e1 : (((m + 1 : Nat) : Int) - 1) = (m : Int) := by omega
      rw [e1]
      have hc1 : wr.cell? ⟨bw, 1, none⟩ = some v1 := Blk.cell (t := 41) hw1.blk 1
      have hf1 : wr.frozen? ⟨bw, 1, none⟩ = false := Blk.frozen hw1.blk 1
      have hca : ∀ o, (wr.alloc o).cell? ⟨bw, 1, none⟩ = some v1 := fun o => (World.cell?_alloc_past _ _ _ hw1.lt).trans hc1
      have hwr : IntKind.i64.wrap (8 * (m : Int)) = 8 * (m : Int) := IntWalk.i64_in _ (by omega)
      have h80 : (0 : Int) ≤ 8 * (m : Int) := by omega
      have h81 : 8 * (m : Int) ≤ 64 := by omega
      go_wp2
      go_region_law (refine step_append_grew (P := Tryd.prog) _ rfl (.tmp 16) (.tmp 22) 24 rfl base 5 i0 _ 1 1 Tryd.underlying24 hi0 hz0 hz1 hz2 rfl (by omega) v1 bs1.length (bs1.map bv) rfl (hw1.own.drew.alloc _) (wr.heap.size + 1) _ 1 1 [.int .u8 _] rfl (reads_new _ _ _) (one_int _ _) (by simp only [maxLen]; omega) (by omega) (by have := ha1.size; simp; omega) ?_; intro v2 w1 hown2 hg2; obtain ⟨A2, c2, rfl⟩ := own_slice hown2; have hc2 : w1.cell? ⟨bw, 1, none⟩ = some v1 := WS.cell2 hw1 (below_new wr _) hg2; have hf2 : w1.frozen? ⟨bw, 1, none⟩ = false := WS.froz2 hw1 (below_new wr _) hg2)
      all_goals
        have R := hw1.push (below_new wr _) (l := [UInt8.ofNat (n >>> (8 * m))]) rfl (by have h := hown2; rw [byte_of_shift] at h; exact h) hg2
        go_wp2
        go_roundw
        case rel => exact ⟨m, _, _, by omega, by go_num, R.1, ha1.trans R.2 hle hw.own (own_not_bw hw.blk hw.own), by rw [← HE.out]; simp [Wp.beN]⟩
        case measure => simp [intOf]
end Go.Proofs.YtonkkojankmhbaaDoor
