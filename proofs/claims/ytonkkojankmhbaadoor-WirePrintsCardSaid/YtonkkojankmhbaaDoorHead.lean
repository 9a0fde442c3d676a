import Derived.Test.YtonkkojankmhbaaDoorNum
namespace Go.Proofs.YtonkkojankmhbaaDoor
open Go.RowKit

theorem below_new0 (w : World) (o : Obj) : Below w.heap.size w (w.alloc o) := (Below.refl _ w).alloc (Nat.le_refl _) o

theorem number_at (z : Int) (size : Nat) (hz : z = (size : Int)) (base bw n : Nat) (W : World) (left : Int) (v : Value) (bs : List UInt8) (hw : WS W base bw left v bs) (hs : base ≤ W.heap.size) (hsz : size ≤ 8) (hn : n < 18446744073709551616) (hl : bs.length ≤ 1000000) :
    Calls Tryd.prog 25 #[.pointer (some ⟨bw, 0, none⟩), .int .u64 n, .int .i64 z] W fun e W' =>
      e = .returned (.tuple #[]) ∧ ∃ v', WS W' base bw left v' (bs ++ Wp.beN n size) ∧ Adv W bw v bs.length W' v' := by
  subst hz; exact number_any base bw n size W left v bs hw hs hsz hn hl

set_option maxRecDepth 100000 in
theorem or_head : ∀ k : Fin 8, ∀ n : Fin 32, bits BinOp.or .u8 (((k.val : Nat) : Int) * 32) ((n.val : Nat) : Int) = ((k.val * 32 + n.val : Nat) : Int) := by decide
theorem head_byte (kind n : Nat) (hk : kind < 8) (hn : n < 32) : Value.int .u8 (bits BinOp.or IntKind.u8 ((kind : Int) * 32) (n : Int)) = bv (UInt8.ofNat (kind * 32 + n)) := by
  have := or_head ⟨kind, hk⟩ ⟨n, hn⟩
  simp only at this
  rw [this, bv]
  congr 1
  have : kind * 32 + n < 256 := by omega
  simp [Nat.mod_eq_of_lt this]

set_option maxHeartbeats 1000000 in
theorem head_24 (base bw kind n : Nat) (W : World) (left : Int) (v : Value) (bs : List UInt8) (hw : WS W base bw left v bs) (hs : base ≤ W.heap.size) (hk : kind < 8) (hn : n < 24) (hl : bs.length ≤ 900000) :
    Calls Tryd.prog 17 #[.pointer (some ⟨bw, 0, none⟩), .int .i64 kind, .int .u64 n] W fun e W' =>
      e = .returned (.tuple #[]) ∧ ∃ v', WS W' base bw left v' (bs ++ Wp.headB kind n) ∧ Adv W bw v bs.length W' v' := by
  obtain ⟨i0, hi0, hz0, hz1, hz2⟩ := info_parts info5
  have hc1 : W.cell? ⟨bw, 1, none⟩ = some v := Blk.cell (t := 41) hw.blk 1
  have hf1 : W.frozen? ⟨bw, 1, none⟩ = false := Blk.frozen hw.blk 1
  have hkz : (kind : Int) < 8 := by omega
  have hnz : (n : Int) < 24 := by omega
  go_enter Tryd.func17, Tryd.ntmps17
  go_wp2_with (at_builtin; refine wpList_append_grew (P := Tryd.prog) _ rfl _ _ 24 rfl base 5 i0 _ 1 1 Tryd.underlying24 hi0 hz0 hz1 hz2 rfl (by omega) v bs.length (bs.map bv) rfl (hw.own.alloc _) (W.heap.size + 1) _ 1 1 [.int .u8 _] rfl (reads_new _ _ _) (one_int _ _) (by simp only [maxLen]; omega) (by omega) (by simp; omega) ?_; intro v2 w1 hown2 hg2; obtain ⟨A2, c2, rfl⟩ := own_slice hown2; have hc2 : w1.cell? ⟨bw, 1, none⟩ = some v := WS.cell2 hw (below_new0 W _) hg2; have hf2 : w1.frozen? ⟨bw, 1, none⟩ = false := WS.froz2 hw (below_new0 W _) hg2)
  refine bodyPost_ret (results_none rfl _ _ _) rfl ?_
  have R := hw.push (below_new0 W _) (l := [UInt8.ofNat (kind * 32 + n)]) rfl (by have h := hown2; rw [head_byte kind n hk (by omega)] at h; exact h) hg2
  refine ⟨rfl, _, ?_, R.2⟩
  have e : Wp.headB kind n = [UInt8.ofNat (kind * 32 + n)] := by unfold Wp.headB; rw [if_pos hn]
  rw [e]
  exact R.1


set_option maxHeartbeats 1000000 in
theorem head_1 (base bw kind n : Nat) (W : World) (left : Int) (v : Value) (bs : List UInt8) (hw : WS W base bw left v bs) (hs : base ≤ W.heap.size) (hk : kind < 8) (hn0 : 24 ≤ n) (hn : n < 256) (hl : bs.length ≤ 900000) :
    Calls Tryd.prog 17 #[.pointer (some ⟨bw, 0, none⟩), .int .i64 kind, .int .u64 n] W fun e W' =>
      e = .returned (.tuple #[]) ∧ ∃ v', WS W' base bw left v' (bs ++ Wp.headB kind n) ∧ Adv W bw v bs.length W' v' := by
  obtain ⟨i0, hi0, hz0, hz1, hz2⟩ := info_parts info5
  have hc1 : W.cell? ⟨bw, 1, none⟩ = some v := Blk.cell (t := 41) hw.blk 1
  have hf1 : W.frozen? ⟨bw, 1, none⟩ = false := Blk.frozen hw.blk 1
  have hkz : (kind : Int) < 8 := by omega
  have hn0z : ¬ (n : Int) < 24 := by omega
  have hnz : (n : Int) < 256 := by omega
  go_enter Tryd.func17, Tryd.ntmps17
  go_wp2_with (first | (at_builtin; refine wpList_append_grew (P := Tryd.prog) _ rfl _ _ 24 rfl base 5 i0 _ 1 1 Tryd.underlying24 hi0 hz0 hz1 hz2 rfl (by omega) v bs.length (bs.map bv) rfl (hw.own.alloc _) (W.heap.size + 1) _ 1 1 [.int .u8 _] rfl (reads_new _ _ _) (one_int _ _) (by simp only [maxLen]; omega) (by omega) (by simp; omega) ?_; intro v2 w1 hown2 hg2; obtain ⟨A2, c2, rfl⟩ := own_slice hown2; have hc2 : w1.cell? ⟨bw, 1, none⟩ = some v := WS.cell2 hw (below_new0 W _) hg2; have hf2 : w1.frozen? ⟨bw, 1, none⟩ = false := WS.froz2 hw (below_new0 W _) hg2; have R := hw.push (below_new0 W _) (l := [UInt8.ofNat (kind * 32 + 24)]) rfl (by have h := hown2; rw [show (24 : Int) = ((24 : Nat) : Int) from rfl, head_byte kind 24 hk (by omega)] at h; exact h) hg2) | (go_at_call 25; refine (number_at 1 1 rfl base bw n _ left _ _ R.1 (Nat.le_trans hs R.2.size) (by omega) (by omega) (by simp; omega)).mono ?_; rintro e W2 ⟨rfl, v3, h3, a3⟩))
  first | go_end0 | refine bodyPost_ret (results_none rfl _ _ _) rfl ?_
  refine ⟨rfl, _, ?_, R.2.trans a3 (by simp) hw.own (own_not_bw hw.blk hw.own)⟩
  have e : Wp.headB kind n = [UInt8.ofNat (kind * 32 + 24)] ++ Wp.beN n 1 := by unfold Wp.headB; rw [if_neg (by omega), if_pos hn]; rfl
  rw [e, ← List.append_assoc]
  exact h3

set_option maxHeartbeats 1000000 in
theorem head_2 (base bw kind n : Nat) (W : World) (left : Int) (v : Value) (bs : List UInt8) (hw : WS W base bw left v bs) (hs : base ≤ W.heap.size) (hk : kind < 8) (hn0 : 256 ≤ n) (hn : n < 65536) (hl : bs.length ≤ 900000) :
    Calls Tryd.prog 17 #[.pointer (some ⟨bw, 0, none⟩), .int .i64 kind, .int .u64 n] W fun e W' =>
      e = .returned (.tuple #[]) ∧ ∃ v', WS W' base bw left v' (bs ++ Wp.headB kind n) ∧ Adv W bw v bs.length W' v' := by
  obtain ⟨i0, hi0, hz0, hz1, hz2⟩ := info_parts info5
  have hc1 : W.cell? ⟨bw, 1, none⟩ = some v := Blk.cell (t := 41) hw.blk 1
  have hf1 : W.frozen? ⟨bw, 1, none⟩ = false := Blk.frozen hw.blk 1
  have hkz : (kind : Int) < 8 := by omega
  have hn0z : ¬ (n : Int) < 256 := by omega
  have hn1z : ¬ (n : Int) < 24 := by omega
  have hnz : (n : Int) < 65536 := by omega
  go_enter Tryd.func17, Tryd.ntmps17
  go_wp2_with (first | (at_builtin; refine wpList_append_grew (P := Tryd.prog) _ rfl _ _ 24 rfl base 5 i0 _ 1 1 Tryd.underlying24 hi0 hz0 hz1 hz2 rfl (by omega) v bs.length (bs.map bv) rfl (hw.own.alloc _) (W.heap.size + 1) _ 1 1 [.int .u8 _] rfl (reads_new _ _ _) (one_int _ _) (by simp only [maxLen]; omega) (by omega) (by simp; omega) ?_; intro v2 w1 hown2 hg2; obtain ⟨A2, c2, rfl⟩ := own_slice hown2; have hc2 : w1.cell? ⟨bw, 1, none⟩ = some v := WS.cell2 hw (below_new0 W _) hg2; have hf2 : w1.frozen? ⟨bw, 1, none⟩ = false := WS.froz2 hw (below_new0 W _) hg2; have R := hw.push (below_new0 W _) (l := [UInt8.ofNat (kind * 32 + 25)]) rfl (by have h := hown2; rw [show (25 : Int) = ((25 : Nat) : Int) from rfl, head_byte kind 25 hk (by omega)] at h; exact h) hg2) | (go_at_call 25; refine (number_at 2 2 rfl base bw n _ left _ _ R.1 (Nat.le_trans hs R.2.size) (by omega) (by omega) (by simp; omega)).mono ?_; rintro e W2 ⟨rfl, v3, h3, a3⟩))
  first | go_end0 | refine bodyPost_ret (results_none rfl _ _ _) rfl ?_
  refine ⟨rfl, _, ?_, R.2.trans a3 (by simp) hw.own (own_not_bw hw.blk hw.own)⟩
  have e : Wp.headB kind n = [UInt8.ofNat (kind * 32 + 25)] ++ Wp.beN n 2 := by unfold Wp.headB; rw [if_neg (by omega), if_neg (by omega), if_pos hn]; rfl
  rw [e, ← List.append_assoc]
  exact h3

set_option maxHeartbeats 1000000 in
theorem head_4 (base bw kind n : Nat) (W : World) (left : Int) (v : Value) (bs : List UInt8) (hw : WS W base bw left v bs) (hs : base ≤ W.heap.size) (hk : kind < 8) (hn0 : 65536 ≤ n) (hn : n < 4294967296) (hl : bs.length ≤ 900000) :
    Calls Tryd.prog 17 #[.pointer (some ⟨bw, 0, none⟩), .int .i64 kind, .int .u64 n] W fun e W' =>
      e = .returned (.tuple #[]) ∧ ∃ v', WS W' base bw left v' (bs ++ Wp.headB kind n) ∧ Adv W bw v bs.length W' v' := by
  obtain ⟨i0, hi0, hz0, hz1, hz2⟩ := info_parts info5
  have hc1 : W.cell? ⟨bw, 1, none⟩ = some v := Blk.cell (t := 41) hw.blk 1
  have hf1 : W.frozen? ⟨bw, 1, none⟩ = false := Blk.frozen hw.blk 1
  have hkz : (kind : Int) < 8 := by omega
  have hn0z : ¬ (n : Int) < 256 := by omega
  have hn1z : ¬ (n : Int) < 24 := by omega
  have hn2z : ¬ (n : Int) < 65536 := by omega
  have hnz : (n : Int) < 4294967296 := by omega
  go_enter Tryd.func17, Tryd.ntmps17
  go_wp2_with (first | (at_builtin; refine wpList_append_grew (P := Tryd.prog) _ rfl _ _ 24 rfl base 5 i0 _ 1 1 Tryd.underlying24 hi0 hz0 hz1 hz2 rfl (by omega) v bs.length (bs.map bv) rfl (hw.own.alloc _) (W.heap.size + 1) _ 1 1 [.int .u8 _] rfl (reads_new _ _ _) (one_int _ _) (by simp only [maxLen]; omega) (by omega) (by simp; omega) ?_; intro v2 w1 hown2 hg2; obtain ⟨A2, c2, rfl⟩ := own_slice hown2; have hc2 : w1.cell? ⟨bw, 1, none⟩ = some v := WS.cell2 hw (below_new0 W _) hg2; have hf2 : w1.frozen? ⟨bw, 1, none⟩ = false := WS.froz2 hw (below_new0 W _) hg2; have R := hw.push (below_new0 W _) (l := [UInt8.ofNat (kind * 32 + 26)]) rfl (by have h := hown2; rw [show (26 : Int) = ((26 : Nat) : Int) from rfl, head_byte kind 26 hk (by omega)] at h; exact h) hg2) | (go_at_call 25; refine (number_at 4 4 rfl base bw n _ left _ _ R.1 (Nat.le_trans hs R.2.size) (by omega) (by omega) (by simp; omega)).mono ?_; rintro e W2 ⟨rfl, v3, h3, a3⟩))
  first | go_end0 | refine bodyPost_ret (results_none rfl _ _ _) rfl ?_
  refine ⟨rfl, _, ?_, R.2.trans a3 (by simp) hw.own (own_not_bw hw.blk hw.own)⟩
  have e : Wp.headB kind n = [UInt8.ofNat (kind * 32 + 26)] ++ Wp.beN n 4 := by unfold Wp.headB; rw [if_neg (by omega), if_neg (by omega), if_neg (by omega), if_pos hn]; rfl
  rw [e, ← List.append_assoc]
  exact h3

set_option maxHeartbeats 1000000 in
theorem head_8 (base bw kind n : Nat) (W : World) (left : Int) (v : Value) (bs : List UInt8) (hw : WS W base bw left v bs) (hs : base ≤ W.heap.size) (hk : kind < 8) (hn0 : 4294967296 ≤ n) (hn : n < 18446744073709551616) (hl : bs.length ≤ 900000) :
    Calls Tryd.prog 17 #[.pointer (some ⟨bw, 0, none⟩), .int .i64 kind, .int .u64 n] W fun e W' =>
      e = .returned (.tuple #[]) ∧ ∃ v', WS W' base bw left v' (bs ++ Wp.headB kind n) ∧ Adv W bw v bs.length W' v' := by
  obtain ⟨i0, hi0, hz0, hz1, hz2⟩ := info_parts info5
  have hc1 : W.cell? ⟨bw, 1, none⟩ = some v := Blk.cell (t := 41) hw.blk 1
  have hf1 : W.frozen? ⟨bw, 1, none⟩ = false := Blk.frozen hw.blk 1
  have hkz : (kind : Int) < 8 := by omega
  have hn0z : ¬ (n : Int) < 256 := by omega
  have hn1z : ¬ (n : Int) < 24 := by omega
  have hn2z : ¬ (n : Int) < 65536 := by omega
  have hn3z : ¬ (n : Int) < 4294967296 := by omega
  go_enter Tryd.func17, Tryd.ntmps17
  go_wp2_with (first | (at_builtin; refine wpList_append_grew (P := Tryd.prog) _ rfl _ _ 24 rfl base 5 i0 _ 1 1 Tryd.underlying24 hi0 hz0 hz1 hz2 rfl (by omega) v bs.length (bs.map bv) rfl (hw.own.alloc _) (W.heap.size + 1) _ 1 1 [.int .u8 _] rfl (reads_new _ _ _) (one_int _ _) (by simp only [maxLen]; omega) (by omega) (by simp; omega) ?_; intro v2 w1 hown2 hg2; obtain ⟨A2, c2, rfl⟩ := own_slice hown2; have hc2 : w1.cell? ⟨bw, 1, none⟩ = some v := WS.cell2 hw (below_new0 W _) hg2; have hf2 : w1.frozen? ⟨bw, 1, none⟩ = false := WS.froz2 hw (below_new0 W _) hg2; have R := hw.push (below_new0 W _) (l := [UInt8.ofNat (kind * 32 + 27)]) rfl (by have h := hown2; rw [show (27 : Int) = ((27 : Nat) : Int) from rfl, head_byte kind 27 hk (by omega)] at h; exact h) hg2) | (go_at_call 25; refine (number_at 8 8 rfl base bw n _ left _ _ R.1 (Nat.le_trans hs R.2.size) (by omega) (by omega) (by simp; omega)).mono ?_; rintro e W2 ⟨rfl, v3, h3, a3⟩))
  first | go_end0 | refine bodyPost_ret (results_none rfl _ _ _) rfl ?_
  refine ⟨rfl, _, ?_, R.2.trans a3 (by simp) hw.own (own_not_bw hw.blk hw.own)⟩
  have e : Wp.headB kind n = [UInt8.ofNat (kind * 32 + 27)] ++ Wp.beN n 8 := by unfold Wp.headB; rw [if_neg (by omega), if_neg (by omega), if_neg (by omega), if_neg (by omega)]; rfl
  rw [e, ← List.append_assoc]
  exact h3

theorem head_any (base bw kind n : Nat) (W : World) (left : Int) (v : Value) (bs : List UInt8) (hw : WS W base bw left v bs) (hs : base ≤ W.heap.size) (hk : kind < 8) (hn : n < 18446744073709551616) (hl : bs.length ≤ 900000) :
    Calls Tryd.prog 17 #[.pointer (some ⟨bw, 0, none⟩), .int .i64 kind, .int .u64 n] W fun e W' =>
      e = .returned (.tuple #[]) ∧ ∃ v', WS W' base bw left v' (bs ++ Wp.headB kind n) ∧ Adv W bw v bs.length W' v' := by
  by_cases h1 : n < 24
  · exact head_24 base bw kind n W left v bs hw hs hk h1 hl
  by_cases h2 : n < 256
  · exact head_1 base bw kind n W left v bs hw hs hk (by omega) h2 hl
  by_cases h3 : n < 65536
  · exact head_2 base bw kind n W left v bs hw hs hk (by omega) h3 hl
  by_cases h4 : n < 4294967296
  · exact head_4 base bw kind n W left v bs hw hs hk (by omega) h4 hl
  · exact head_8 base bw kind n W left v bs hw hs hk (by omega) hn hl
end Go.Proofs.YtonkkojankmhbaaDoor
