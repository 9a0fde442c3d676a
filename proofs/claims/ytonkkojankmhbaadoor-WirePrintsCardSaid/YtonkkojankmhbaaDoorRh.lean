import Derived.Test.YtonkkojankmhbaaDoorHead
import Derived.Laws.IdiomStrings
namespace Go.Proofs.YtonkkojankmhbaaDoor
open Go.RowKit

def strV (l : List UInt8) : Value := .string ⟨l.toArray⟩

theorem conv1 (W : World) (x : UInt8) : (convert 24 9 (.slice (some ⟨W.heap.size, 0, none⟩) 1 1)).run Tryd.prog (W.alloc (.cells #[bv x] 5)) = .ok (.string ⟨#[x]⟩) (W.alloc (.cells #[bv x] 5)) := by
  have := run_convert_bytes_back (P := Tryd.prog) (W.alloc (.cells #[bv x] 5)) 24 9 5 ⟨W.heap.size, 0, none⟩ 1 [x] Tryd.underlying24 Tryd.underlying5 Tryd.underlying9 (fun j hj => by
    have hj' : j = 0 := by simpa using hj
    subst hj'
    have := Blk.cell (t := 5) (Blk.new W 5 #[bv x]) 0
    exact this)
  exact this
theorem conv1_of (W : World) (v : Value) (x : UInt8) (e : v = bv x) : (convert 24 9 (.slice (some ⟨W.heap.size, 0, none⟩) 1 1)).run Tryd.prog (W.alloc (.cells #[v] 5)) = .ok (.string ⟨#[x]⟩) (W.alloc (.cells #[v] 5)) := by
  subst e; exact conv1 W x

set_option maxHeartbeats 1000000 in
theorem rhead_24 (kind n : Nat) (w : World) (hk : kind < 8) (hn : n < 24) :
    Calls Tryd.prog 20 #[.int .i64 kind, .int .u64 n] w fun e w' => e = .returned (strV (Wp.headB kind n)) ∧ Below w.heap.size w w' := by
  have hkz : (kind : Int) < 8 := by omega
  have hnz : (n : Int) < 24 := by omega
  have cv := fun W => conv1_of W _ _ (head_byte kind n hk (by omega))
  have e : Wp.headB kind n = [UInt8.ofNat (kind * 32 + n)] := by unfold Wp.headB; rw [if_pos hn]
  rw [e]
  clear e
  go_enter Tryd.func20, Tryd.ntmps20
  go_wp2
  go_ret
  exact ⟨by simp [strV], (Below.refl _ w).alloc (Nat.le_refl _) _⟩
theorem headB_len (kind n : Nat) : (Wp.headB kind n).length ≤ 9 := by unfold Wp.headB; (repeat' split) <;> simp [Wp.beN]
theorem bytes_app (a b : List UInt8) : (ByteArray.mk a.toArray) ++ (ByteArray.mk b.toArray) = ⟨(a ++ b).toArray⟩ := by
  apply ByteArray.ext
  simp
theorem run_addS (a b : List UInt8) (hl : a.length + b.length ≤ 1000000000) (W : World) : (binOp .add 9 (strV a) (strV b)).run Tryd.prog W = .ok (strV (a ++ b)) W := by
  have hl' : ¬ (9223372036854775807 : Int) < ((ByteArray.mk a.toArray).size : Int) + ((ByteArray.mk b.toArray).size : Int) := by
    have e1 : (ByteArray.mk a.toArray).size = a.length := rfl
    have e2 : (ByteArray.mk b.toArray).size = b.length := rfl
    rw [e1, e2]; omega
  simp [strV, binOp, Op.stringOp]
  rw [if_neg hl', bytes_app]
theorem conv1_of' (W : World) (v : Value) (x : UInt8) (e : v = bv x) : (convert 24 9 (.slice (some ⟨W.heap.size, 0, none⟩) 1 1)).run Tryd.prog (W.alloc (.cells #[v] 5)) = .ok (strV [x]) (W.alloc (.cells #[v] 5)) := conv1_of W v x e
theorem byte_of_shift2 (n m : Nat) : Value.int .u8 ((n : Int) / 2 ^ (8 * m) % 256) = bv (UInt8.ofNat (n >>> (8 * m))) := by
  rw [Nat.shiftRight_eq_div_pow, bv, ← u8_wrap_nat]
  simp [IntKind.wrap, IntKind.bits, IntKind.signed]
theorem or_h24 (kind : Nat) (hk : kind < 8) : bits BinOp.or IntKind.u8 ((kind : Int) * 32) 24 = (kind : Int) * 32 + 24 := by
  have := or_head ⟨kind, hk⟩ ⟨24, by omega⟩
  simpa using this
theorem hb_lit (kind n : Nat) (hk : kind < 8) (hn : n < 32) : Value.int .u8 ((kind : Int) * 32 + ((n : Nat) : Int)) = bv (UInt8.ofNat (kind * 32 + n)) := by
  rw [← head_byte kind n hk hn, or_head ⟨kind, hk⟩ ⟨n, hn⟩]
  simp
theorem headB_1 (kind n : Nat) (h1 : 24 ≤ n) (h2 : n < 256) : Wp.headB kind n = [UInt8.ofNat (kind * 32 + 24)] ++ Wp.beN n 1 := by unfold Wp.headB; rw [if_neg (by omega), if_pos h2]; rfl
theorem headB_2 (kind n : Nat) (h1 : 256 ≤ n) (h2 : n < 65536) : Wp.headB kind n = [UInt8.ofNat (kind * 32 + 25)] ++ Wp.beN n 2 := by unfold Wp.headB; rw [if_neg (by omega), if_neg (by omega), if_pos h2]; rfl
theorem headB_4 (kind n : Nat) (h1 : 65536 ≤ n) (h2 : n < 4294967296) : Wp.headB kind n = [UInt8.ofNat (kind * 32 + 26)] ++ Wp.beN n 4 := by unfold Wp.headB; rw [if_neg (by omega), if_neg (by omega), if_neg (by omega), if_pos h2]; rfl
theorem headB_8 (kind n : Nat) (h1 : 4294967296 ≤ n) : Wp.headB kind n = [UInt8.ofNat (kind * 32 + 27)] ++ Wp.beN n 8 := by unfold Wp.headB; rw [if_neg (by omega), if_neg (by omega), if_neg (by omega), if_neg (by omega)]; rfl
set_option maxHeartbeats 4000000 in
theorem rhead_1 (kind n : Nat) (w : World) (hk : kind < 8) (hn1 : 24 ≤ n) (hn : n < 256) :
    Calls Tryd.prog 20 #[.int .i64 kind, .int .u64 n] w fun e w' => e = .returned (strV (Wp.headB kind n)) ∧ Below w.heap.size w w' := by
  have hkz : (kind : Int) < 8 := by omega
  have hnz0 : ¬ (n : Int) < 24 := by omega
  have hnz1 : (n : Int) < 256 := by omega
  have h24 := or_h24 kind hk
  have cv : ∀ W : World, (convert 24 9 (.slice (some ⟨W.heap.size, 0, none⟩) 1 1)).run Tryd.prog (W.alloc (.cells #[.int .u8 ((kind : Int) * 32 + 24)] 5)) = .ok (strV [UInt8.ofNat (kind * 32 + 24)]) (W.alloc (.cells #[.int .u8 ((kind : Int) * 32 + 24)] 5)) := fun W => conv1_of W _ _ (by rw [show (kind : Int) * 32 + 24 = (kind : Int) * 32 + ((24 : Nat) : Int) by omega]; exact hb_lit kind 24 hk (by omega))
  have HE := Lib.hid (headB_1 kind n hn1 hn)
  go_enter Tryd.func20, Tryd.ntmps20
  go_wp2
  refine wp_loop_rounds 1 ?_
  rw [rounds_succ]
  go_wp2
  go_loopw [9, 10] (fun s t wr => ∃ (k : Nat) (bs1 : List UInt8), k ≤ 8 ∧ s = strV bs1 ∧ t = .int .i64 ((k : Int) - 1) ∧ bs1 ++ Wp.beN n k = Wp.headB kind n ∧ Below w.heap.size w wr)
    (fun _ t _ => (intOf t + 1).toNat)
  case atStart => exact ⟨1, [UInt8.ofNat (kind * 32 + 24)], by omega, by simp, rfl, HE.out.symm, (Below.refl _ w).alloc (Nat.le_refl _) _⟩
  case round =>
    obtain ⟨k, bs1, hk8, rfl, rfl, he, hb⟩ := hrel
    have HF := Lib.hid he
    clear he
    rcases Nat.eq_zero_or_pos k with hk0 | hk0
    · subst hk0
      go_wp2
      go_ret
      exact ⟨by have := HF.out; simp [Wp.beN] at this; rw [← this]; rfl, hb⟩
    · obtain ⟨m, rfl⟩ : ∃ m, k = m + 1 := ⟨k - 1, by omega⟩
      have e1 : (((m + 1 : Nat) : Int) - 1) = (m : Int) := by omega
      rw [e1]
      have hwr : IntKind.i64.wrap (8 * (m : Int)) = 8 * (m : Int) := IntWalk.i64_in _ (by omega)
      have h80 : (0 : Int) ≤ 8 * (m : Int) := by omega
      have h81 : 8 * (m : Int) ≤ 64 := by omega
      have cv2 := fun W => conv1_of' W _ _ (byte_of_shift2 n m)
      have hadd := run_addS bs1 [UInt8.ofNat (n >>> (8 * m))] (by have := congrArg List.length HF.out; simp at this; simp only [List.length_cons, List.length_nil]; have := headB_len kind n; omega)
      go_wp2
      go_roundw
      case rel => exact ⟨m, bs1 ++ [UInt8.ofNat (n >>> (8 * m))], by omega, by simp [strV], by go_num, by rw [← HF.out]; simp [Wp.beN], hb.alloc (by have := hb.size; omega) _⟩
      case measure => simp [intOf]
set_option maxHeartbeats 4000000 in
theorem rhead_2 (kind n : Nat) (w : World) (hk : kind < 8) (hn1 : 256 ≤ n) (hn : n < 65536) :
    Calls Tryd.prog 20 #[.int .i64 kind, .int .u64 n] w fun e w' => e = .returned (strV (Wp.headB kind n)) ∧ Below w.heap.size w w' := by
  have hkz : (kind : Int) < 8 := by omega
  have hnz0 : ¬ (n : Int) < 24 := by omega
  have hnz1 : ¬ (n : Int) < 256 := by omega
  have hnz2 : (n : Int) < 65536 := by omega
  have h24 := or_h24 kind hk
  have cv : ∀ W : World, (convert 24 9 (.slice (some ⟨W.heap.size, 0, none⟩) 1 1)).run Tryd.prog (W.alloc (.cells #[.int .u8 ((kind : Int) * 32 + 24 + 1)] 5)) = .ok (strV [UInt8.ofNat (kind * 32 + 25)]) (W.alloc (.cells #[.int .u8 ((kind : Int) * 32 + 24 + 1)] 5)) := fun W => conv1_of W _ _ (by rw [show (kind : Int) * 32 + 24 + 1 = (kind : Int) * 32 + ((25 : Nat) : Int) by omega]; exact hb_lit kind 25 hk (by omega))
  have HE := Lib.hid (headB_2 kind n hn1 hn)
  go_enter Tryd.func20, Tryd.ntmps20
  go_wp2
  refine wp_loop_rounds 2 ?_
  rw [rounds_succ]
  go_wp2
  rw [rounds_succ]
  go_wp2
  go_loopw [9, 10] (fun s t wr => ∃ (k : Nat) (bs1 : List UInt8), k ≤ 8 ∧ s = strV bs1 ∧ t = .int .i64 ((k : Int) - 1) ∧ bs1 ++ Wp.beN n k = Wp.headB kind n ∧ Below w.heap.size w wr)
    (fun _ t _ => (intOf t + 1).toNat)
  case atStart => exact ⟨2, [UInt8.ofNat (kind * 32 + 25)], by omega, by simp, rfl, HE.out.symm, (Below.refl _ w).alloc (Nat.le_refl _) _⟩
  case round =>
    obtain ⟨k, bs1, hk8, rfl, rfl, he, hb⟩ := hrel
    have HF := Lib.hid he
    clear he
    rcases Nat.eq_zero_or_pos k with hk0 | hk0
    · subst hk0
      go_wp2
      go_ret
      exact ⟨by have := HF.out; simp [Wp.beN] at this; rw [← this]; rfl, hb⟩
    · obtain ⟨m, rfl⟩ : ∃ m, k = m + 1 := ⟨k - 1, by omega⟩
      have e1 : (((m + 1 : Nat) : Int) - 1) = (m : Int) := by omega
      rw [e1]
      have hwr : IntKind.i64.wrap (8 * (m : Int)) = 8 * (m : Int) := IntWalk.i64_in _ (by omega)
      have h80 : (0 : Int) ≤ 8 * (m : Int) := by omega
      have h81 : 8 * (m : Int) ≤ 64 := by omega
      have cv2 := fun W => conv1_of' W _ _ (byte_of_shift2 n m)
      have hadd := run_addS bs1 [UInt8.ofNat (n >>> (8 * m))] (by have := congrArg List.length HF.out; simp at this; simp only [List.length_cons, List.length_nil]; have := headB_len kind n; omega)
      go_wp2
      go_roundw
      case rel => exact ⟨m, bs1 ++ [UInt8.ofNat (n >>> (8 * m))], by omega, by simp [strV], by go_num, by rw [← HF.out]; simp [Wp.beN], hb.alloc (by have := hb.size; omega) _⟩
      case measure => simp [intOf]
set_option maxHeartbeats 4000000 in
theorem rhead_4 (kind n : Nat) (w : World) (hk : kind < 8) (hn1 : 65536 ≤ n) (hn : n < 4294967296) :
    Calls Tryd.prog 20 #[.int .i64 kind, .int .u64 n] w fun e w' => e = .returned (strV (Wp.headB kind n)) ∧ Below w.heap.size w w' := by
  have hkz : (kind : Int) < 8 := by omega
  have hnz0 : ¬ (n : Int) < 24 := by omega
  have hnz1 : ¬ (n : Int) < 256 := by omega
  have hnz2 : ¬ (n : Int) < 65536 := by omega
  have hnz3 : (n : Int) < 4294967296 := by omega
  have h24 := or_h24 kind hk
  have cv : ∀ W : World, (convert 24 9 (.slice (some ⟨W.heap.size, 0, none⟩) 1 1)).run Tryd.prog (W.alloc (.cells #[.int .u8 ((kind : Int) * 32 + 24 + 1 + 1)] 5)) = .ok (strV [UInt8.ofNat (kind * 32 + 26)]) (W.alloc (.cells #[.int .u8 ((kind : Int) * 32 + 24 + 1 + 1)] 5)) := fun W => conv1_of W _ _ (by rw [show (kind : Int) * 32 + 24 + 1 + 1 = (kind : Int) * 32 + ((26 : Nat) : Int) by omega]; exact hb_lit kind 26 hk (by omega))
  have HE := Lib.hid (headB_4 kind n hn1 hn)
  go_enter Tryd.func20, Tryd.ntmps20
  go_wp2
  refine wp_loop_rounds 3 ?_
  rw [rounds_succ]
  go_wp2
  rw [rounds_succ]
  go_wp2
  rw [rounds_succ]
  go_wp2
  go_loopw [9, 10] (fun s t wr => ∃ (k : Nat) (bs1 : List UInt8), k ≤ 8 ∧ s = strV bs1 ∧ t = .int .i64 ((k : Int) - 1) ∧ bs1 ++ Wp.beN n k = Wp.headB kind n ∧ Below w.heap.size w wr)
    (fun _ t _ => (intOf t + 1).toNat)
  case atStart => exact ⟨4, [UInt8.ofNat (kind * 32 + 26)], by omega, by simp, rfl, HE.out.symm, (Below.refl _ w).alloc (Nat.le_refl _) _⟩
  case round =>
    obtain ⟨k, bs1, hk8, rfl, rfl, he, hb⟩ := hrel
    have HF := Lib.hid he
    clear he
    rcases Nat.eq_zero_or_pos k with hk0 | hk0
    · subst hk0
      go_wp2
      go_ret
      exact ⟨by have := HF.out; simp [Wp.beN] at this; rw [← this]; rfl, hb⟩
    · obtain ⟨m, rfl⟩ : ∃ m, k = m + 1 := ⟨k - 1, by omega⟩
      have e1 : (((m + 1 : Nat) : Int) - 1) = (m : Int) := by omega
      rw [e1]
      have hwr : IntKind.i64.wrap (8 * (m : Int)) = 8 * (m : Int) := IntWalk.i64_in _ (by omega)
      have h80 : (0 : Int) ≤ 8 * (m : Int) := by omega
      have h81 : 8 * (m : Int) ≤ 64 := by omega
      have cv2 := fun W => conv1_of' W _ _ (byte_of_shift2 n m)
      have hadd := run_addS bs1 [UInt8.ofNat (n >>> (8 * m))] (by have := congrArg List.length HF.out; simp at this; simp only [List.length_cons, List.length_nil]; have := headB_len kind n; omega)
      go_wp2
      go_roundw
      case rel => exact ⟨m, bs1 ++ [UInt8.ofNat (n >>> (8 * m))], by omega, by simp [strV], by go_num, by rw [← HF.out]; simp [Wp.beN], hb.alloc (by have := hb.size; omega) _⟩
      case measure => simp [intOf]
set_option maxHeartbeats 4000000 in
theorem rhead_8 (kind n : Nat) (w : World) (hk : kind < 8) (hn1 : 4294967296 ≤ n) (hn : n < 18446744073709551616) :
    Calls Tryd.prog 20 #[.int .i64 kind, .int .u64 n] w fun e w' => e = .returned (strV (Wp.headB kind n)) ∧ Below w.heap.size w w' := by
  have hkz : (kind : Int) < 8 := by omega
  have hnz0 : ¬ (n : Int) < 24 := by omega
  have hnz1 : ¬ (n : Int) < 256 := by omega
  have hnz2 : ¬ (n : Int) < 65536 := by omega
  have hnz3 : ¬ (n : Int) < 4294967296 := by omega
  have h24 := or_h24 kind hk
  have cv : ∀ W : World, (convert 24 9 (.slice (some ⟨W.heap.size, 0, none⟩) 1 1)).run Tryd.prog (W.alloc (.cells #[.int .u8 ((kind : Int) * 32 + 24 + 1 + 1 + 1)] 5)) = .ok (strV [UInt8.ofNat (kind * 32 + 27)]) (W.alloc (.cells #[.int .u8 ((kind : Int) * 32 + 24 + 1 + 1 + 1)] 5)) := fun W => conv1_of W _ _ (by rw [show (kind : Int) * 32 + 24 + 1 + 1 + 1 = (kind : Int) * 32 + ((27 : Nat) : Int) by omega]; exact hb_lit kind 27 hk (by omega))
  have HE := Lib.hid (headB_8 kind n hn1)
  go_enter Tryd.func20, Tryd.ntmps20
  go_wp2
  refine wp_loop_rounds 4 ?_
  rw [rounds_succ]
  go_wp2
  rw [rounds_succ]
  go_wp2
  rw [rounds_succ]
  go_wp2
  rw [rounds_succ]
  go_wp2
  go_loopw [9, 10] (fun s t wr => ∃ (k : Nat) (bs1 : List UInt8), k ≤ 8 ∧ s = strV bs1 ∧ t = .int .i64 ((k : Int) - 1) ∧ bs1 ++ Wp.beN n k = Wp.headB kind n ∧ Below w.heap.size w wr)
    (fun _ t _ => (intOf t + 1).toNat)
  case atStart => exact ⟨8, [UInt8.ofNat (kind * 32 + 27)], by omega, by simp, rfl, HE.out.symm, (Below.refl _ w).alloc (Nat.le_refl _) _⟩
  case round =>
    obtain ⟨k, bs1, hk8, rfl, rfl, he, hb⟩ := hrel
    have HF := Lib.hid he
    clear he
    rcases Nat.eq_zero_or_pos k with hk0 | hk0
    · subst hk0
      go_wp2
      go_ret
      exact ⟨by have := HF.out; simp [Wp.beN] at this; rw [← this]; rfl, hb⟩
    · obtain ⟨m, rfl⟩ : ∃ m, k = m + 1 := ⟨k - 1, by omega⟩
      have e1 : (((m + 1 : Nat) : Int) - 1) = (m : Int) := by omega
      rw [e1]
      have hwr : IntKind.i64.wrap (8 * (m : Int)) = 8 * (m : Int) := IntWalk.i64_in _ (by omega)
      have h80 : (0 : Int) ≤ 8 * (m : Int) := by omega
      have h81 : 8 * (m : Int) ≤ 64 := by omega
      have cv2 := fun W => conv1_of' W _ _ (byte_of_shift2 n m)
      have hadd := run_addS bs1 [UInt8.ofNat (n >>> (8 * m))] (by have := congrArg List.length HF.out; simp at this; simp only [List.length_cons, List.length_nil]; have := headB_len kind n; omega)
      go_wp2
      go_roundw
      case rel => exact ⟨m, bs1 ++ [UInt8.ofNat (n >>> (8 * m))], by omega, by simp [strV], by go_num, by rw [← HF.out]; simp [Wp.beN], hb.alloc (by have := hb.size; omega) _⟩
      case measure => simp [intOf]
theorem rhead_any (kind n : Nat) (w : World) (hk : kind < 8) (hn : n < 18446744073709551616) :
    Calls Tryd.prog 20 #[.int .i64 kind, .int .u64 n] w fun e w' => e = .returned (strV (Wp.headB kind n)) ∧ Below w.heap.size w w' := by
  by_cases h1 : n < 24
  · exact rhead_24 kind n w hk h1
  by_cases h2 : n < 256
  · exact rhead_1 kind n w hk (by omega) h2
  by_cases h3 : n < 65536
  · exact rhead_2 kind n w hk (by omega) h3
  by_cases h4 : n < 4294967296
  · exact rhead_4 kind n w hk (by omega) h4
  · exact rhead_8 kind n w hk (by omega) hn
end Go.Proofs.YtonkkojankmhbaaDoor
