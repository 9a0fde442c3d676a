import Derived.Test.YtonkkojankmhbaaDoorVd
namespace Go.Proofs.YtonkkojankmhbaaDoor
open Go.RowKit
open Wp (It)

def RvPost (W : World) (r : Option Nat) (e : Ending) (w' : World) : Prop :=
  Below W.heap.size W w' ∧ match r with
    | some m => e = .returned (.tuple #[.int .i64 (m : Int), .bool true])
    | none => e = .returned (.tuple #[.int .i64 0, .bool false])
theorem rvp_some {W W' : World} {R : Option Nat} {m : Nat} (h : R = some m) (hb : Below W.heap.size W W') : RvPost W R (.returned (.tuple #[.int .i64 (m : Int), .bool true])) W' := by
  subst h; exact ⟨hb, rfl⟩
theorem rvp_none {W W' : World} {R : Option Nat} (h : R = none) (hb : Below W.heap.size W W') : RvPost W R (.returned (.tuple #[.int .i64 0, .bool false])) W' := by
  subst h; exact ⟨hb, rfl⟩
def RvOK (i : It) : Prop := ∀ (c0 c1 c2 c3 : Value) (W : World) (B deep : Nat) (left : Int), B ≤ W.heap.size → Lib.Utf8Tabs 0 1 W → deep ≤ 17 → 0 ≤ left → left ≤ 4096 → ItAt W B i [c0, c1, c2, c3] →
  Calls Tryd.prog 11 #[.agg #[c0, c1, c2, c3], .int .i64 (deep : Int), .int .i64 left] W (RvPost W (Wp.rValid vfD i deep left))

set_option maxRecDepth 100000 in
set_option maxHeartbeats 4000000 in
theorem rv_low (k : Int) (n : Nat) (d : List UInt8) (l : List It) (deep : Nat) (left : Int) (hl : 1 ≤ left) (hl2 : left ≤ 4096) (hd : deep ≤ 16) (c0 c1 c2 c3 : Value) (W : World) (B : Nat) (hB : B ≤ W.heap.size) (hT : Lib.Utf8Tabs 0 1 W) (hi : ItAt W B (.mk k n d l) [c0, c1, c2, c3]) (hk : k < 0) :
    Calls Tryd.prog 11 #[.agg #[c0, c1, c2, c3], .int .i64 (deep : Int), .int .i64 left] W fun e w' => e = .returned (.tuple #[.int .i64 0, .bool false]) ∧ Below W.heap.size W w' := by
  obtain ⟨Wb, A, c, A2, c2', cells, hWb, rfl, rfl, rfl, rfl, hbW, hsz, ic⟩ := boxed W B hB k n d l c0 c1 c2 c3 hi
  have g0 := ic.f0
  have g1 := ic.f1
  have g2 := ic.f2
  have g3 := ic.f3
  have hdz : (deep : Int) ≤ 16 := by omega
  have HV := Lib.hid (fun (w : World) (hb : Below Wb.heap.size Wb w) => valid_at A d d.length c Wb.heap.size w rfl ic.db ic.dc.1 ic.dc.2.1 hb.size (ic.dr.below hb) (Utf8Tabs_below (Utf8Tabs_below hT hbW) hb))
  have HS := Lib.hid hsz
  clear hi hsz hT
  skip
  try simp only [List.length_nil] at HV
  try simp only [List.length_nil, Int.natCast_zero] at hWb
  go_enter Tryd.func11, Tryd.ntmps11
  go_wp2_with (go_at_call 19; (refine (HV.out _ (Below.refl _ _)).mono ?_); rintro e W2 ⟨rfl, b2⟩; have i2 := ic.below b2; have q0 := i2.f0; have q1 := i2.f1; have q2 := i2.f2; have q3 := i2.f3)
  all_goals
    go_ret2
    exact ⟨rfl, hbW.trans (b2.mono (by have := HS.out; omega))⟩

set_option maxRecDepth 100000 in
set_option maxHeartbeats 4000000 in
theorem rv_high (k : Int) (n : Nat) (d : List UInt8) (l : List It) (deep : Nat) (left : Int) (hl : 1 ≤ left) (hl2 : left ≤ 4096) (hd : deep ≤ 16) (c0 c1 c2 c3 : Value) (W : World) (B : Nat) (hB : B ≤ W.heap.size) (hT : Lib.Utf8Tabs 0 1 W) (hi : ItAt W B (.mk k n d l) [c0, c1, c2, c3]) (hk : 7 < k) :
    Calls Tryd.prog 11 #[.agg #[c0, c1, c2, c3], .int .i64 (deep : Int), .int .i64 left] W fun e w' => e = .returned (.tuple #[.int .i64 0, .bool false]) ∧ Below W.heap.size W w' := by
  obtain ⟨Wb, A, c, A2, c2', cells, hWb, rfl, rfl, rfl, rfl, hbW, hsz, ic⟩ := boxed W B hB k n d l c0 c1 c2 c3 hi
  have g0 := ic.f0
  have g1 := ic.f1
  have g2 := ic.f2
  have g3 := ic.f3
  have hdz : (deep : Int) ≤ 16 := by omega
  have HV := Lib.hid (fun (w : World) (hb : Below Wb.heap.size Wb w) => valid_at A d d.length c Wb.heap.size w rfl ic.db ic.dc.1 ic.dc.2.1 hb.size (ic.dr.below hb) (Utf8Tabs_below (Utf8Tabs_below hT hbW) hb))
  have HS := Lib.hid hsz
  clear hi hsz hT
  have hk0 : ¬ k < 0 := by omega
  try simp only [List.length_nil] at HV
  try simp only [List.length_nil, Int.natCast_zero] at hWb
  go_enter Tryd.func11, Tryd.ntmps11
  go_wp2_with (go_at_call 19; (refine (HV.out _ (Below.refl _ _)).mono ?_); rintro e W2 ⟨rfl, b2⟩; have i2 := ic.below b2; have q0 := i2.f0; have q1 := i2.f1; have q2 := i2.f2; have q3 := i2.f3)
  all_goals
    go_ret2
    exact ⟨rfl, hbW.trans (b2.mono (by have := HS.out; omega))⟩

set_option maxRecDepth 100000 in
set_option maxHeartbeats 4000000 in
theorem rv_six (n : Nat) (d : List UInt8) (l : List It) (deep : Nat) (left : Int) (hl : 1 ≤ left) (hl2 : left ≤ 4096) (hd : deep ≤ 16) (c0 c1 c2 c3 : Value) (W : World) (B : Nat) (hB : B ≤ W.heap.size) (hT : Lib.Utf8Tabs 0 1 W) (hi : ItAt W B (.mk 6 n d l) [c0, c1, c2, c3])  :
    Calls Tryd.prog 11 #[.agg #[c0, c1, c2, c3], .int .i64 (deep : Int), .int .i64 left] W fun e w' => e = .returned (.tuple #[.int .i64 0, .bool false]) ∧ Below W.heap.size W w' := by
  obtain ⟨Wb, A, c, A2, c2', cells, hWb, rfl, rfl, rfl, rfl, hbW, hsz, ic⟩ := boxed W B hB 6 n d l c0 c1 c2 c3 hi
  have g0 := ic.f0
  have g1 := ic.f1
  have g2 := ic.f2
  have g3 := ic.f3
  have hdz : (deep : Int) ≤ 16 := by omega
  have HV := Lib.hid (fun (w : World) (hb : Below Wb.heap.size Wb w) => valid_at A d d.length c Wb.heap.size w rfl ic.db ic.dc.1 ic.dc.2.1 hb.size (ic.dr.below hb) (Utf8Tabs_below (Utf8Tabs_below hT hbW) hb))
  have HS := Lib.hid hsz
  clear hi hsz hT
  skip
  try simp only [List.length_nil] at HV
  try simp only [List.length_nil, Int.natCast_zero] at hWb
  go_enter Tryd.func11, Tryd.ntmps11
  go_wp2_with (go_at_call 19; (refine (HV.out _ (Below.refl _ _)).mono ?_); rintro e W2 ⟨rfl, b2⟩; have i2 := ic.below b2; have q0 := i2.f0; have q1 := i2.f1; have q2 := i2.f2; have q3 := i2.f3)
  all_goals
    go_ret2
    exact ⟨rfl, hbW.trans (b2.mono (by have := HS.out; omega))⟩

set_option maxRecDepth 100000 in
set_option maxHeartbeats 4000000 in
theorem rv_d0 (n : Nat) (d : List UInt8) (l : List It) (deep : Nat) (left : Int) (hl : 1 ≤ left) (hl2 : left ≤ 4096) (hd : deep ≤ 16) (c0 c1 c2 c3 : Value) (W : World) (B : Nat) (hB : B ≤ W.heap.size) (hT : Lib.Utf8Tabs 0 1 W) (hi : ItAt W B (.mk 0 n d l) [c0, c1, c2, c3]) (hx : ¬ d.length = 0) :
    Calls Tryd.prog 11 #[.agg #[c0, c1, c2, c3], .int .i64 (deep : Int), .int .i64 left] W fun e w' => e = .returned (.tuple #[.int .i64 0, .bool false]) ∧ Below W.heap.size W w' := by
  obtain ⟨Wb, A, c, A2, c2', cells, hWb, rfl, rfl, rfl, rfl, hbW, hsz, ic⟩ := boxed W B hB 0 n d l c0 c1 c2 c3 hi
  have g0 := ic.f0
  have g1 := ic.f1
  have g2 := ic.f2
  have g3 := ic.f3
  have hdz : (deep : Int) ≤ 16 := by omega
  have HV := Lib.hid (fun (w : World) (hb : Below Wb.heap.size Wb w) => valid_at A d d.length c Wb.heap.size w rfl ic.db ic.dc.1 ic.dc.2.1 hb.size (ic.dr.below hb) (Utf8Tabs_below (Utf8Tabs_below hT hbW) hb))
  have HS := Lib.hid hsz
  clear hi hsz hT
  have hxa : ((d.length : Int) == 0) = false := by simpa using hx
  have hxb : ((d.length : Int) != 0) = true := by simpa using hx
  have hxc : ¬ (d.length : Int) = 0 := by omega
  clear hx
  try simp only [List.length_nil] at HV
  try simp only [List.length_nil, Int.natCast_zero] at hWb
  go_enter Tryd.func11, Tryd.ntmps11
  go_wp2_with (go_at_call 19; (refine (HV.out _ (Below.refl _ _)).mono ?_); rintro e W2 ⟨rfl, b2⟩; have i2 := ic.below b2; have q0 := i2.f0; have q1 := i2.f1; have q2 := i2.f2; have q3 := i2.f3)
  all_goals
    go_ret2
    exact ⟨rfl, hbW.trans (b2.mono (by have := HS.out; omega))⟩

set_option maxRecDepth 100000 in
set_option maxHeartbeats 4000000 in
theorem rv_l0 (n : Nat) (d : List UInt8) (l : List It) (deep : Nat) (left : Int) (hl : 1 ≤ left) (hl2 : left ≤ 4096) (hd : deep ≤ 16) (c0 c1 c2 c3 : Value) (W : World) (B : Nat) (hB : B ≤ W.heap.size) (hT : Lib.Utf8Tabs 0 1 W) (hi : ItAt W B (.mk 0 n d l) [c0, c1, c2, c3]) (hd0 : d = []) (hx : ¬ l.length = 0) :
    Calls Tryd.prog 11 #[.agg #[c0, c1, c2, c3], .int .i64 (deep : Int), .int .i64 left] W fun e w' => e = .returned (.tuple #[.int .i64 0, .bool false]) ∧ Below W.heap.size W w' := by
  obtain ⟨Wb, A, c, A2, c2', cells, hWb, rfl, rfl, rfl, rfl, hbW, hsz, ic⟩ := boxed W B hB 0 n d l c0 c1 c2 c3 hi
  have g0 := ic.f0
  have g1 := ic.f1
  have g2 := ic.f2
  have g3 := ic.f3
  have hdz : (deep : Int) ≤ 16 := by omega
  have HV := Lib.hid (fun (w : World) (hb : Below Wb.heap.size Wb w) => valid_at A d d.length c Wb.heap.size w rfl ic.db ic.dc.1 ic.dc.2.1 hb.size (ic.dr.below hb) (Utf8Tabs_below (Utf8Tabs_below hT hbW) hb))
  have HS := Lib.hid hsz
  clear hi hsz hT
  subst hd0
  have hxa : ((l.length : Int) == 0) = false := by simpa using hx
  have hxb : ((l.length : Int) != 0) = true := by simpa using hx
  have hxc : ¬ (l.length : Int) = 0 := by omega
  clear hx
  try simp only [List.length_nil] at HV
  try simp only [List.length_nil, Int.natCast_zero] at hWb
  go_enter Tryd.func11, Tryd.ntmps11
  go_wp2_with (go_at_call 19; (refine (HV.out _ (Below.refl _ _)).mono ?_); rintro e W2 ⟨rfl, b2⟩; have i2 := ic.below b2; have q0 := i2.f0; have q1 := i2.f1; have q2 := i2.f2; have q3 := i2.f3)
  all_goals
    go_ret2
    exact ⟨rfl, hbW.trans (b2.mono (by have := HS.out; omega))⟩

set_option maxRecDepth 100000 in
set_option maxHeartbeats 4000000 in
theorem rv_d1 (n : Nat) (d : List UInt8) (l : List It) (deep : Nat) (left : Int) (hl : 1 ≤ left) (hl2 : left ≤ 4096) (hd : deep ≤ 16) (c0 c1 c2 c3 : Value) (W : World) (B : Nat) (hB : B ≤ W.heap.size) (hT : Lib.Utf8Tabs 0 1 W) (hi : ItAt W B (.mk 1 n d l) [c0, c1, c2, c3]) (hx : ¬ d.length = 0) :
    Calls Tryd.prog 11 #[.agg #[c0, c1, c2, c3], .int .i64 (deep : Int), .int .i64 left] W fun e w' => e = .returned (.tuple #[.int .i64 0, .bool false]) ∧ Below W.heap.size W w' := by
  obtain ⟨Wb, A, c, A2, c2', cells, hWb, rfl, rfl, rfl, rfl, hbW, hsz, ic⟩ := boxed W B hB 1 n d l c0 c1 c2 c3 hi
  have g0 := ic.f0
  have g1 := ic.f1
  have g2 := ic.f2
  have g3 := ic.f3
  have hdz : (deep : Int) ≤ 16 := by omega
  have HV := Lib.hid (fun (w : World) (hb : Below Wb.heap.size Wb w) => valid_at A d d.length c Wb.heap.size w rfl ic.db ic.dc.1 ic.dc.2.1 hb.size (ic.dr.below hb) (Utf8Tabs_below (Utf8Tabs_below hT hbW) hb))
  have HS := Lib.hid hsz
  clear hi hsz hT
  have hxa : ((d.length : Int) == 0) = false := by simpa using hx
  have hxb : ((d.length : Int) != 0) = true := by simpa using hx
  have hxc : ¬ (d.length : Int) = 0 := by omega
  clear hx
  try simp only [List.length_nil] at HV
  try simp only [List.length_nil, Int.natCast_zero] at hWb
  go_enter Tryd.func11, Tryd.ntmps11
  go_wp2_with (go_at_call 19; (refine (HV.out _ (Below.refl _ _)).mono ?_); rintro e W2 ⟨rfl, b2⟩; have i2 := ic.below b2; have q0 := i2.f0; have q1 := i2.f1; have q2 := i2.f2; have q3 := i2.f3)
  all_goals
    go_ret2
    exact ⟨rfl, hbW.trans (b2.mono (by have := HS.out; omega))⟩

set_option maxRecDepth 100000 in
set_option maxHeartbeats 4000000 in
theorem rv_l1 (n : Nat) (d : List UInt8) (l : List It) (deep : Nat) (left : Int) (hl : 1 ≤ left) (hl2 : left ≤ 4096) (hd : deep ≤ 16) (c0 c1 c2 c3 : Value) (W : World) (B : Nat) (hB : B ≤ W.heap.size) (hT : Lib.Utf8Tabs 0 1 W) (hi : ItAt W B (.mk 1 n d l) [c0, c1, c2, c3]) (hd0 : d = []) (hx : ¬ l.length = 0) :
    Calls Tryd.prog 11 #[.agg #[c0, c1, c2, c3], .int .i64 (deep : Int), .int .i64 left] W fun e w' => e = .returned (.tuple #[.int .i64 0, .bool false]) ∧ Below W.heap.size W w' := by
  obtain ⟨Wb, A, c, A2, c2', cells, hWb, rfl, rfl, rfl, rfl, hbW, hsz, ic⟩ := boxed W B hB 1 n d l c0 c1 c2 c3 hi
  have g0 := ic.f0
  have g1 := ic.f1
  have g2 := ic.f2
  have g3 := ic.f3
  have hdz : (deep : Int) ≤ 16 := by omega
  have HV := Lib.hid (fun (w : World) (hb : Below Wb.heap.size Wb w) => valid_at A d d.length c Wb.heap.size w rfl ic.db ic.dc.1 ic.dc.2.1 hb.size (ic.dr.below hb) (Utf8Tabs_below (Utf8Tabs_below hT hbW) hb))
  have HS := Lib.hid hsz
  clear hi hsz hT
  subst hd0
  have hxa : ((l.length : Int) == 0) = false := by simpa using hx
  have hxb : ((l.length : Int) != 0) = true := by simpa using hx
  have hxc : ¬ (l.length : Int) = 0 := by omega
  clear hx
  try simp only [List.length_nil] at HV
  try simp only [List.length_nil, Int.natCast_zero] at hWb
  go_enter Tryd.func11, Tryd.ntmps11
  go_wp2_with (go_at_call 19; (refine (HV.out _ (Below.refl _ _)).mono ?_); rintro e W2 ⟨rfl, b2⟩; have i2 := ic.below b2; have q0 := i2.f0; have q1 := i2.f1; have q2 := i2.f2; have q3 := i2.f3)
  all_goals
    go_ret2
    exact ⟨rfl, hbW.trans (b2.mono (by have := HS.out; omega))⟩

set_option maxRecDepth 100000 in
set_option maxHeartbeats 4000000 in
theorem rv_d7 (n : Nat) (d : List UInt8) (l : List It) (deep : Nat) (left : Int) (hl : 1 ≤ left) (hl2 : left ≤ 4096) (hd : deep ≤ 16) (c0 c1 c2 c3 : Value) (W : World) (B : Nat) (hB : B ≤ W.heap.size) (hT : Lib.Utf8Tabs 0 1 W) (hi : ItAt W B (.mk 7 n d l) [c0, c1, c2, c3]) (hx : ¬ d.length = 0) :
    Calls Tryd.prog 11 #[.agg #[c0, c1, c2, c3], .int .i64 (deep : Int), .int .i64 left] W fun e w' => e = .returned (.tuple #[.int .i64 0, .bool false]) ∧ Below W.heap.size W w' := by
  obtain ⟨Wb, A, c, A2, c2', cells, hWb, rfl, rfl, rfl, rfl, hbW, hsz, ic⟩ := boxed W B hB 7 n d l c0 c1 c2 c3 hi
  have g0 := ic.f0
  have g1 := ic.f1
  have g2 := ic.f2
  have g3 := ic.f3
  have hdz : (deep : Int) ≤ 16 := by omega
  have HV := Lib.hid (fun (w : World) (hb : Below Wb.heap.size Wb w) => valid_at A d d.length c Wb.heap.size w rfl ic.db ic.dc.1 ic.dc.2.1 hb.size (ic.dr.below hb) (Utf8Tabs_below (Utf8Tabs_below hT hbW) hb))
  have HS := Lib.hid hsz
  clear hi hsz hT
  have hxa : ((d.length : Int) == 0) = false := by simpa using hx
  have hxb : ((d.length : Int) != 0) = true := by simpa using hx
  have hxc : ¬ (d.length : Int) = 0 := by omega
  clear hx
  try simp only [List.length_nil] at HV
  try simp only [List.length_nil, Int.natCast_zero] at hWb
  go_enter Tryd.func11, Tryd.ntmps11
  go_wp2_with (go_at_call 19; (refine (HV.out _ (Below.refl _ _)).mono ?_); rintro e W2 ⟨rfl, b2⟩; have i2 := ic.below b2; have q0 := i2.f0; have q1 := i2.f1; have q2 := i2.f2; have q3 := i2.f3)
  all_goals
    go_ret2
    exact ⟨rfl, hbW.trans (b2.mono (by have := HS.out; omega))⟩

set_option maxRecDepth 100000 in
set_option maxHeartbeats 4000000 in
theorem rv_l7 (n : Nat) (d : List UInt8) (l : List It) (deep : Nat) (left : Int) (hl : 1 ≤ left) (hl2 : left ≤ 4096) (hd : deep ≤ 16) (c0 c1 c2 c3 : Value) (W : World) (B : Nat) (hB : B ≤ W.heap.size) (hT : Lib.Utf8Tabs 0 1 W) (hi : ItAt W B (.mk 7 n d l) [c0, c1, c2, c3]) (hd0 : d = []) (hx : ¬ l.length = 0) :
    Calls Tryd.prog 11 #[.agg #[c0, c1, c2, c3], .int .i64 (deep : Int), .int .i64 left] W fun e w' => e = .returned (.tuple #[.int .i64 0, .bool false]) ∧ Below W.heap.size W w' := by
  obtain ⟨Wb, A, c, A2, c2', cells, hWb, rfl, rfl, rfl, rfl, hbW, hsz, ic⟩ := boxed W B hB 7 n d l c0 c1 c2 c3 hi
  have g0 := ic.f0
  have g1 := ic.f1
  have g2 := ic.f2
  have g3 := ic.f3
  have hdz : (deep : Int) ≤ 16 := by omega
  have HV := Lib.hid (fun (w : World) (hb : Below Wb.heap.size Wb w) => valid_at A d d.length c Wb.heap.size w rfl ic.db ic.dc.1 ic.dc.2.1 hb.size (ic.dr.below hb) (Utf8Tabs_below (Utf8Tabs_below hT hbW) hb))
  have HS := Lib.hid hsz
  clear hi hsz hT
  subst hd0
  have hxa : ((l.length : Int) == 0) = false := by simpa using hx
  have hxb : ((l.length : Int) != 0) = true := by simpa using hx
  have hxc : ¬ (l.length : Int) = 0 := by omega
  clear hx
  try simp only [List.length_nil] at HV
  try simp only [List.length_nil, Int.natCast_zero] at hWb
  go_enter Tryd.func11, Tryd.ntmps11
  go_wp2_with (go_at_call 19; (refine (HV.out _ (Below.refl _ _)).mono ?_); rintro e W2 ⟨rfl, b2⟩; have i2 := ic.below b2; have q0 := i2.f0; have q1 := i2.f1; have q2 := i2.f2; have q3 := i2.f3)
  all_goals
    go_ret2
    exact ⟨rfl, hbW.trans (b2.mono (by have := HS.out; omega))⟩

set_option maxRecDepth 100000 in
set_option maxHeartbeats 4000000 in
theorem rv_n2 (n : Nat) (d : List UInt8) (l : List It) (deep : Nat) (left : Int) (hl : 1 ≤ left) (hl2 : left ≤ 4096) (hd : deep ≤ 16) (c0 c1 c2 c3 : Value) (W : World) (B : Nat) (hB : B ≤ W.heap.size) (hT : Lib.Utf8Tabs 0 1 W) (hi : ItAt W B (.mk 2 n d l) [c0, c1, c2, c3]) (hx : ¬ n = 0) :
    Calls Tryd.prog 11 #[.agg #[c0, c1, c2, c3], .int .i64 (deep : Int), .int .i64 left] W fun e w' => e = .returned (.tuple #[.int .i64 0, .bool false]) ∧ Below W.heap.size W w' := by
  obtain ⟨Wb, A, c, A2, c2', cells, hWb, rfl, rfl, rfl, rfl, hbW, hsz, ic⟩ := boxed W B hB 2 n d l c0 c1 c2 c3 hi
  have g0 := ic.f0
  have g1 := ic.f1
  have g2 := ic.f2
  have g3 := ic.f3
  have hdz : (deep : Int) ≤ 16 := by omega
  have HV := Lib.hid (fun (w : World) (hb : Below Wb.heap.size Wb w) => valid_at A d d.length c Wb.heap.size w rfl ic.db ic.dc.1 ic.dc.2.1 hb.size (ic.dr.below hb) (Utf8Tabs_below (Utf8Tabs_below hT hbW) hb))
  have HS := Lib.hid hsz
  clear hi hsz hT
  have hxa : ((n : Int) == 0) = false := by simpa using hx
  have hxb : ((n : Int) != 0) = true := by simpa using hx
  have hxc : ¬ (n : Int) = 0 := by omega
  clear hx
  try simp only [List.length_nil] at HV
  try simp only [List.length_nil, Int.natCast_zero] at hWb
  go_enter Tryd.func11, Tryd.ntmps11
  go_wp2_with (go_at_call 19; (refine (HV.out _ (Below.refl _ _)).mono ?_); rintro e W2 ⟨rfl, b2⟩; have i2 := ic.below b2; have q0 := i2.f0; have q1 := i2.f1; have q2 := i2.f2; have q3 := i2.f3)
  all_goals
    go_ret2
    exact ⟨rfl, hbW.trans (b2.mono (by have := HS.out; omega))⟩

set_option maxRecDepth 100000 in
set_option maxHeartbeats 4000000 in
theorem rv_l2 (n : Nat) (d : List UInt8) (l : List It) (deep : Nat) (left : Int) (hl : 1 ≤ left) (hl2 : left ≤ 4096) (hd : deep ≤ 16) (c0 c1 c2 c3 : Value) (W : World) (B : Nat) (hB : B ≤ W.heap.size) (hT : Lib.Utf8Tabs 0 1 W) (hi : ItAt W B (.mk 2 n d l) [c0, c1, c2, c3]) (hn0 : n = 0) (hx : ¬ l.length = 0) :
    Calls Tryd.prog 11 #[.agg #[c0, c1, c2, c3], .int .i64 (deep : Int), .int .i64 left] W fun e w' => e = .returned (.tuple #[.int .i64 0, .bool false]) ∧ Below W.heap.size W w' := by
  obtain ⟨Wb, A, c, A2, c2', cells, hWb, rfl, rfl, rfl, rfl, hbW, hsz, ic⟩ := boxed W B hB 2 n d l c0 c1 c2 c3 hi
  have g0 := ic.f0
  have g1 := ic.f1
  have g2 := ic.f2
  have g3 := ic.f3
  have hdz : (deep : Int) ≤ 16 := by omega
  have HV := Lib.hid (fun (w : World) (hb : Below Wb.heap.size Wb w) => valid_at A d d.length c Wb.heap.size w rfl ic.db ic.dc.1 ic.dc.2.1 hb.size (ic.dr.below hb) (Utf8Tabs_below (Utf8Tabs_below hT hbW) hb))
  have HS := Lib.hid hsz
  clear hi hsz hT
  subst hn0
  have hxa : ((l.length : Int) == 0) = false := by simpa using hx
  have hxb : ((l.length : Int) != 0) = true := by simpa using hx
  have hxc : ¬ (l.length : Int) = 0 := by omega
  clear hx
  try simp only [List.length_nil] at HV
  try simp only [List.length_nil, Int.natCast_zero] at hWb
  go_enter Tryd.func11, Tryd.ntmps11
  go_wp2_with (go_at_call 19; (refine (HV.out _ (Below.refl _ _)).mono ?_); rintro e W2 ⟨rfl, b2⟩; have i2 := ic.below b2; have q0 := i2.f0; have q1 := i2.f1; have q2 := i2.f2; have q3 := i2.f3)
  all_goals
    go_ret2
    exact ⟨rfl, hbW.trans (b2.mono (by have := HS.out; omega))⟩

set_option maxRecDepth 100000 in
set_option maxHeartbeats 4000000 in
theorem rv_n3 (n : Nat) (d : List UInt8) (l : List It) (deep : Nat) (left : Int) (hl : 1 ≤ left) (hl2 : left ≤ 4096) (hd : deep ≤ 16) (c0 c1 c2 c3 : Value) (W : World) (B : Nat) (hB : B ≤ W.heap.size) (hT : Lib.Utf8Tabs 0 1 W) (hi : ItAt W B (.mk 3 n d l) [c0, c1, c2, c3]) (hx : ¬ n = 0) :
    Calls Tryd.prog 11 #[.agg #[c0, c1, c2, c3], .int .i64 (deep : Int), .int .i64 left] W fun e w' => e = .returned (.tuple #[.int .i64 0, .bool false]) ∧ Below W.heap.size W w' := by
  obtain ⟨Wb, A, c, A2, c2', cells, hWb, rfl, rfl, rfl, rfl, hbW, hsz, ic⟩ := boxed W B hB 3 n d l c0 c1 c2 c3 hi
  have g0 := ic.f0
  have g1 := ic.f1
  have g2 := ic.f2
  have g3 := ic.f3
  have hdz : (deep : Int) ≤ 16 := by omega
  have HV := Lib.hid (fun (w : World) (hb : Below Wb.heap.size Wb w) => valid_at A d d.length c Wb.heap.size w rfl ic.db ic.dc.1 ic.dc.2.1 hb.size (ic.dr.below hb) (Utf8Tabs_below (Utf8Tabs_below hT hbW) hb))
  have HS := Lib.hid hsz
  clear hi hsz hT
  have hxa : ((n : Int) == 0) = false := by simpa using hx
  have hxb : ((n : Int) != 0) = true := by simpa using hx
  have hxc : ¬ (n : Int) = 0 := by omega
  clear hx
  try simp only [List.length_nil] at HV
  try simp only [List.length_nil, Int.natCast_zero] at hWb
  go_enter Tryd.func11, Tryd.ntmps11
  go_wp2_with (go_at_call 19; (refine (HV.out _ (Below.refl _ _)).mono ?_); rintro e W2 ⟨rfl, b2⟩; have i2 := ic.below b2; have q0 := i2.f0; have q1 := i2.f1; have q2 := i2.f2; have q3 := i2.f3)
  all_goals
    go_ret2
    exact ⟨rfl, hbW.trans (b2.mono (by have := HS.out; omega))⟩

set_option maxRecDepth 100000 in
set_option maxHeartbeats 4000000 in
theorem rv_l3 (n : Nat) (d : List UInt8) (l : List It) (deep : Nat) (left : Int) (hl : 1 ≤ left) (hl2 : left ≤ 4096) (hd : deep ≤ 16) (c0 c1 c2 c3 : Value) (W : World) (B : Nat) (hB : B ≤ W.heap.size) (hT : Lib.Utf8Tabs 0 1 W) (hi : ItAt W B (.mk 3 n d l) [c0, c1, c2, c3]) (hn0 : n = 0) (hx : ¬ l.length = 0) :
    Calls Tryd.prog 11 #[.agg #[c0, c1, c2, c3], .int .i64 (deep : Int), .int .i64 left] W fun e w' => e = .returned (.tuple #[.int .i64 0, .bool false]) ∧ Below W.heap.size W w' := by
  obtain ⟨Wb, A, c, A2, c2', cells, hWb, rfl, rfl, rfl, rfl, hbW, hsz, ic⟩ := boxed W B hB 3 n d l c0 c1 c2 c3 hi
  have g0 := ic.f0
  have g1 := ic.f1
  have g2 := ic.f2
  have g3 := ic.f3
  have hdz : (deep : Int) ≤ 16 := by omega
  have HV := Lib.hid (fun (w : World) (hb : Below Wb.heap.size Wb w) => valid_at A d d.length c Wb.heap.size w rfl ic.db ic.dc.1 ic.dc.2.1 hb.size (ic.dr.below hb) (Utf8Tabs_below (Utf8Tabs_below hT hbW) hb))
  have HS := Lib.hid hsz
  clear hi hsz hT
  subst hn0
  have hxa : ((l.length : Int) == 0) = false := by simpa using hx
  have hxb : ((l.length : Int) != 0) = true := by simpa using hx
  have hxc : ¬ (l.length : Int) = 0 := by omega
  clear hx
  try simp only [List.length_nil] at HV
  try simp only [List.length_nil, Int.natCast_zero] at hWb
  go_enter Tryd.func11, Tryd.ntmps11
  go_wp2_with (go_at_call 19; (refine (HV.out _ (Below.refl _ _)).mono ?_); rintro e W2 ⟨rfl, b2⟩; have i2 := ic.below b2; have q0 := i2.f0; have q1 := i2.f1; have q2 := i2.f2; have q3 := i2.f3)
  all_goals
    go_ret2
    exact ⟨rfl, hbW.trans (b2.mono (by have := HS.out; omega))⟩

set_option maxRecDepth 100000 in
set_option maxHeartbeats 4000000 in
theorem rv_n4 (n : Nat) (d : List UInt8) (l : List It) (deep : Nat) (left : Int) (hl : 1 ≤ left) (hl2 : left ≤ 4096) (hd : deep ≤ 16) (c0 c1 c2 c3 : Value) (W : World) (B : Nat) (hB : B ≤ W.heap.size) (hT : Lib.Utf8Tabs 0 1 W) (hi : ItAt W B (.mk 4 n d l) [c0, c1, c2, c3]) (hx : ¬ n = 0) :
    Calls Tryd.prog 11 #[.agg #[c0, c1, c2, c3], .int .i64 (deep : Int), .int .i64 left] W fun e w' => e = .returned (.tuple #[.int .i64 0, .bool false]) ∧ Below W.heap.size W w' := by
  obtain ⟨Wb, A, c, A2, c2', cells, hWb, rfl, rfl, rfl, rfl, hbW, hsz, ic⟩ := boxed W B hB 4 n d l c0 c1 c2 c3 hi
  have g0 := ic.f0
  have g1 := ic.f1
  have g2 := ic.f2
  have g3 := ic.f3
  have hdz : (deep : Int) ≤ 16 := by omega
  have HV := Lib.hid (fun (w : World) (hb : Below Wb.heap.size Wb w) => valid_at A d d.length c Wb.heap.size w rfl ic.db ic.dc.1 ic.dc.2.1 hb.size (ic.dr.below hb) (Utf8Tabs_below (Utf8Tabs_below hT hbW) hb))
  have HS := Lib.hid hsz
  clear hi hsz hT
  have hxa : ((n : Int) == 0) = false := by simpa using hx
  have hxb : ((n : Int) != 0) = true := by simpa using hx
  have hxc : ¬ (n : Int) = 0 := by omega
  clear hx
  try simp only [List.length_nil] at HV
  try simp only [List.length_nil, Int.natCast_zero] at hWb
  go_enter Tryd.func11, Tryd.ntmps11
  go_wp2_with (go_at_call 19; (refine (HV.out _ (Below.refl _ _)).mono ?_); rintro e W2 ⟨rfl, b2⟩; have i2 := ic.below b2; have q0 := i2.f0; have q1 := i2.f1; have q2 := i2.f2; have q3 := i2.f3)
  all_goals
    go_ret2
    exact ⟨rfl, hbW.trans (b2.mono (by have := HS.out; omega))⟩

set_option maxRecDepth 100000 in
set_option maxHeartbeats 4000000 in
theorem rv_d4 (n : Nat) (d : List UInt8) (l : List It) (deep : Nat) (left : Int) (hl : 1 ≤ left) (hl2 : left ≤ 4096) (hd : deep ≤ 16) (c0 c1 c2 c3 : Value) (W : World) (B : Nat) (hB : B ≤ W.heap.size) (hT : Lib.Utf8Tabs 0 1 W) (hi : ItAt W B (.mk 4 n d l) [c0, c1, c2, c3]) (hn0 : n = 0) (hx : ¬ d.length = 0) :
    Calls Tryd.prog 11 #[.agg #[c0, c1, c2, c3], .int .i64 (deep : Int), .int .i64 left] W fun e w' => e = .returned (.tuple #[.int .i64 0, .bool false]) ∧ Below W.heap.size W w' := by
  obtain ⟨Wb, A, c, A2, c2', cells, hWb, rfl, rfl, rfl, rfl, hbW, hsz, ic⟩ := boxed W B hB 4 n d l c0 c1 c2 c3 hi
  have g0 := ic.f0
  have g1 := ic.f1
  have g2 := ic.f2
  have g3 := ic.f3
  have hdz : (deep : Int) ≤ 16 := by omega
  have HV := Lib.hid (fun (w : World) (hb : Below Wb.heap.size Wb w) => valid_at A d d.length c Wb.heap.size w rfl ic.db ic.dc.1 ic.dc.2.1 hb.size (ic.dr.below hb) (Utf8Tabs_below (Utf8Tabs_below hT hbW) hb))
  have HS := Lib.hid hsz
  clear hi hsz hT
  subst hn0
  have hxa : ((d.length : Int) == 0) = false := by simpa using hx
  have hxb : ((d.length : Int) != 0) = true := by simpa using hx
  have hxc : ¬ (d.length : Int) = 0 := by omega
  clear hx
  try simp only [List.length_nil] at HV
  try simp only [List.length_nil, Int.natCast_zero] at hWb
  go_enter Tryd.func11, Tryd.ntmps11
  go_wp2_with (go_at_call 19; (refine (HV.out _ (Below.refl _ _)).mono ?_); rintro e W2 ⟨rfl, b2⟩; have i2 := ic.below b2; have q0 := i2.f0; have q1 := i2.f1; have q2 := i2.f2; have q3 := i2.f3)
  all_goals
    go_ret2
    exact ⟨rfl, hbW.trans (b2.mono (by have := HS.out; omega))⟩

set_option maxRecDepth 100000 in
set_option maxHeartbeats 4000000 in
theorem rv_n5 (n : Nat) (d : List UInt8) (l : List It) (deep : Nat) (left : Int) (hl : 1 ≤ left) (hl2 : left ≤ 4096) (hd : deep ≤ 16) (c0 c1 c2 c3 : Value) (W : World) (B : Nat) (hB : B ≤ W.heap.size) (hT : Lib.Utf8Tabs 0 1 W) (hi : ItAt W B (.mk 5 n d l) [c0, c1, c2, c3]) (hx : ¬ n = 0) :
    Calls Tryd.prog 11 #[.agg #[c0, c1, c2, c3], .int .i64 (deep : Int), .int .i64 left] W fun e w' => e = .returned (.tuple #[.int .i64 0, .bool false]) ∧ Below W.heap.size W w' := by
  obtain ⟨Wb, A, c, A2, c2', cells, hWb, rfl, rfl, rfl, rfl, hbW, hsz, ic⟩ := boxed W B hB 5 n d l c0 c1 c2 c3 hi
  have g0 := ic.f0
  have g1 := ic.f1
  have g2 := ic.f2
  have g3 := ic.f3
  have hdz : (deep : Int) ≤ 16 := by omega
  have HV := Lib.hid (fun (w : World) (hb : Below Wb.heap.size Wb w) => valid_at A d d.length c Wb.heap.size w rfl ic.db ic.dc.1 ic.dc.2.1 hb.size (ic.dr.below hb) (Utf8Tabs_below (Utf8Tabs_below hT hbW) hb))
  have HS := Lib.hid hsz
  clear hi hsz hT
  have hxa : ((n : Int) == 0) = false := by simpa using hx
  have hxb : ((n : Int) != 0) = true := by simpa using hx
  have hxc : ¬ (n : Int) = 0 := by omega
  clear hx
  try simp only [List.length_nil] at HV
  try simp only [List.length_nil, Int.natCast_zero] at hWb
  go_enter Tryd.func11, Tryd.ntmps11
  go_wp2_with (go_at_call 19; (refine (HV.out _ (Below.refl _ _)).mono ?_); rintro e W2 ⟨rfl, b2⟩; have i2 := ic.below b2; have q0 := i2.f0; have q1 := i2.f1; have q2 := i2.f2; have q3 := i2.f3)
  all_goals
    go_ret2
    exact ⟨rfl, hbW.trans (b2.mono (by have := HS.out; omega))⟩

set_option maxRecDepth 100000 in
set_option maxHeartbeats 4000000 in
theorem rv_d5 (n : Nat) (d : List UInt8) (l : List It) (deep : Nat) (left : Int) (hl : 1 ≤ left) (hl2 : left ≤ 4096) (hd : deep ≤ 16) (c0 c1 c2 c3 : Value) (W : World) (B : Nat) (hB : B ≤ W.heap.size) (hT : Lib.Utf8Tabs 0 1 W) (hi : ItAt W B (.mk 5 n d l) [c0, c1, c2, c3]) (hn0 : n = 0) (hx : ¬ d.length = 0) :
    Calls Tryd.prog 11 #[.agg #[c0, c1, c2, c3], .int .i64 (deep : Int), .int .i64 left] W fun e w' => e = .returned (.tuple #[.int .i64 0, .bool false]) ∧ Below W.heap.size W w' := by
  obtain ⟨Wb, A, c, A2, c2', cells, hWb, rfl, rfl, rfl, rfl, hbW, hsz, ic⟩ := boxed W B hB 5 n d l c0 c1 c2 c3 hi
  have g0 := ic.f0
  have g1 := ic.f1
  have g2 := ic.f2
  have g3 := ic.f3
  have hdz : (deep : Int) ≤ 16 := by omega
  have HV := Lib.hid (fun (w : World) (hb : Below Wb.heap.size Wb w) => valid_at A d d.length c Wb.heap.size w rfl ic.db ic.dc.1 ic.dc.2.1 hb.size (ic.dr.below hb) (Utf8Tabs_below (Utf8Tabs_below hT hbW) hb))
  have HS := Lib.hid hsz
  clear hi hsz hT
  subst hn0
  have hxa : ((d.length : Int) == 0) = false := by simpa using hx
  have hxb : ((d.length : Int) != 0) = true := by simpa using hx
  have hxc : ¬ (d.length : Int) = 0 := by omega
  clear hx
  try simp only [List.length_nil] at HV
  try simp only [List.length_nil, Int.natCast_zero] at hWb
  go_enter Tryd.func11, Tryd.ntmps11
  go_wp2_with (go_at_call 19; (refine (HV.out _ (Below.refl _ _)).mono ?_); rintro e W2 ⟨rfl, b2⟩; have i2 := ic.below b2; have q0 := i2.f0; have q1 := i2.f1; have q2 := i2.f2; have q3 := i2.f3)
  all_goals
    go_ret2
    exact ⟨rfl, hbW.trans (b2.mono (by have := HS.out; omega))⟩

set_option maxRecDepth 100000 in
set_option maxHeartbeats 4000000 in
theorem rv_t3 (n : Nat) (d : List UInt8) (l : List It) (deep : Nat) (left : Int) (hl : 1 ≤ left) (hl2 : left ≤ 4096) (hd : deep ≤ 16) (c0 c1 c2 c3 : Value) (W : World) (B : Nat) (hB : B ≤ W.heap.size) (hT : Lib.Utf8Tabs 0 1 W) (hi : ItAt W B (.mk 3 n d l) [c0, c1, c2, c3]) (hn0 : n = 0) (hl0 : l = []) (hv : vfD d = false) :
    Calls Tryd.prog 11 #[.agg #[c0, c1, c2, c3], .int .i64 (deep : Int), .int .i64 left] W fun e w' => e = .returned (.tuple #[.int .i64 0, .bool false]) ∧ Below W.heap.size W w' := by
  obtain ⟨Wb, A, c, A2, c2', cells, hWb, rfl, rfl, rfl, rfl, hbW, hsz, ic⟩ := boxed W B hB 3 n d l c0 c1 c2 c3 hi
  have g0 := ic.f0
  have g1 := ic.f1
  have g2 := ic.f2
  have g3 := ic.f3
  have hdz : (deep : Int) ≤ 16 := by omega
  have HV := Lib.hid (fun (w : World) (hb : Below Wb.heap.size Wb w) => valid_at A d d.length c Wb.heap.size w rfl ic.db ic.dc.1 ic.dc.2.1 hb.size (ic.dr.below hb) (Utf8Tabs_below (Utf8Tabs_below hT hbW) hb))
  have HS := Lib.hid hsz
  clear hi hsz hT
  subst hn0
  subst hl0
  rw [hv] at HV
  try simp only [List.length_nil] at HV
  try simp only [List.length_nil, Int.natCast_zero] at hWb
  go_enter Tryd.func11, Tryd.ntmps11
  go_wp2_with (go_at_call 19; (refine (HV.out _ (Below.refl _ _)).mono ?_); rintro e W2 ⟨rfl, b2⟩; have i2 := ic.below b2; have q0 := i2.f0; have q1 := i2.f1; have q2 := i2.f2; have q3 := i2.f3)
  all_goals
    go_ret2
    exact ⟨rfl, hbW.trans (b2.mono (by have := HS.out; omega))⟩

set_option maxRecDepth 100000 in
set_option maxHeartbeats 4000000 in
theorem rv_s7 (n : Nat) (d : List UInt8) (l : List It) (deep : Nat) (left : Int) (hl : 1 ≤ left) (hl2 : left ≤ 4096) (hd : deep ≤ 16) (c0 c1 c2 c3 : Value) (W : World) (B : Nat) (hB : B ≤ W.heap.size) (hT : Lib.Utf8Tabs 0 1 W) (hi : ItAt W B (.mk 7 n d l) [c0, c1, c2, c3]) (hd0 : d = []) (hl0 : l = []) (hx : n < 20) :
    Calls Tryd.prog 11 #[.agg #[c0, c1, c2, c3], .int .i64 (deep : Int), .int .i64 left] W fun e w' => e = .returned (.tuple #[.int .i64 0, .bool false]) ∧ Below W.heap.size W w' := by
  obtain ⟨Wb, A, c, A2, c2', cells, hWb, rfl, rfl, rfl, rfl, hbW, hsz, ic⟩ := boxed W B hB 7 n d l c0 c1 c2 c3 hi
  have g0 := ic.f0
  have g1 := ic.f1
  have g2 := ic.f2
  have g3 := ic.f3
  have hdz : (deep : Int) ≤ 16 := by omega
  have HV := Lib.hid (fun (w : World) (hb : Below Wb.heap.size Wb w) => valid_at A d d.length c Wb.heap.size w rfl ic.db ic.dc.1 ic.dc.2.1 hb.size (ic.dr.below hb) (Utf8Tabs_below (Utf8Tabs_below hT hbW) hb))
  have HS := Lib.hid hsz
  clear hi hsz hT
  subst hd0
  subst hl0
  have hxz : (n : Int) < 20 := by omega
  try simp only [List.length_nil] at HV
  try simp only [List.length_nil, Int.natCast_zero] at hWb
  go_enter Tryd.func11, Tryd.ntmps11
  go_wp2_with (go_at_call 19; (refine (HV.out _ (Below.refl _ _)).mono ?_); rintro e W2 ⟨rfl, b2⟩; have i2 := ic.below b2; have q0 := i2.f0; have q1 := i2.f1; have q2 := i2.f2; have q3 := i2.f3)
  all_goals
    go_ret2
    exact ⟨rfl, hbW.trans (b2.mono (by have := HS.out; omega))⟩

set_option maxRecDepth 100000 in
set_option maxHeartbeats 4000000 in
theorem rv_g7 (n : Nat) (d : List UInt8) (l : List It) (deep : Nat) (left : Int) (hl : 1 ≤ left) (hl2 : left ≤ 4096) (hd : deep ≤ 16) (c0 c1 c2 c3 : Value) (W : World) (B : Nat) (hB : B ≤ W.heap.size) (hT : Lib.Utf8Tabs 0 1 W) (hi : ItAt W B (.mk 7 n d l) [c0, c1, c2, c3]) (hd0 : d = []) (hl0 : l = []) (hx : 22 < n) :
    Calls Tryd.prog 11 #[.agg #[c0, c1, c2, c3], .int .i64 (deep : Int), .int .i64 left] W fun e w' => e = .returned (.tuple #[.int .i64 0, .bool false]) ∧ Below W.heap.size W w' := by
  obtain ⟨Wb, A, c, A2, c2', cells, hWb, rfl, rfl, rfl, rfl, hbW, hsz, ic⟩ := boxed W B hB 7 n d l c0 c1 c2 c3 hi
  have g0 := ic.f0
  have g1 := ic.f1
  have g2 := ic.f2
  have g3 := ic.f3
  have hdz : (deep : Int) ≤ 16 := by omega
  have HV := Lib.hid (fun (w : World) (hb : Below Wb.heap.size Wb w) => valid_at A d d.length c Wb.heap.size w rfl ic.db ic.dc.1 ic.dc.2.1 hb.size (ic.dr.below hb) (Utf8Tabs_below (Utf8Tabs_below hT hbW) hb))
  have HS := Lib.hid hsz
  clear hi hsz hT
  subst hd0
  subst hl0
  have hxz : ¬ (n : Int) < 20 := by omega
  have hxy : (22 : Int) < (n : Int) := by omega
  try simp only [List.length_nil] at HV
  try simp only [List.length_nil, Int.natCast_zero] at hWb
  go_enter Tryd.func11, Tryd.ntmps11
  go_wp2_with (go_at_call 19; (refine (HV.out _ (Below.refl _ _)).mono ?_); rintro e W2 ⟨rfl, b2⟩; have i2 := ic.below b2; have q0 := i2.f0; have q1 := i2.f1; have q2 := i2.f2; have q3 := i2.f3)
  all_goals
    go_ret2
    exact ⟨rfl, hbW.trans (b2.mono (by have := HS.out; omega))⟩

set_option maxRecDepth 100000 in
set_option maxHeartbeats 4000000 in
theorem rv_o5 (n : Nat) (d : List UInt8) (l : List It) (deep : Nat) (left : Int) (hl : 1 ≤ left) (hl2 : left ≤ 4096) (hd : deep ≤ 16) (c0 c1 c2 c3 : Value) (W : World) (B : Nat) (hB : B ≤ W.heap.size) (hT : Lib.Utf8Tabs 0 1 W) (hi : ItAt W B (.mk 5 n d l) [c0, c1, c2, c3]) (hn0 : n = 0) (hd0 : d = []) (hx : l.length % 2 = 1) :
    Calls Tryd.prog 11 #[.agg #[c0, c1, c2, c3], .int .i64 (deep : Int), .int .i64 left] W fun e w' => e = .returned (.tuple #[.int .i64 0, .bool false]) ∧ Below W.heap.size W w' := by
  obtain ⟨Wb, A, c, A2, c2', cells, hWb, rfl, rfl, rfl, rfl, hbW, hsz, ic⟩ := boxed W B hB 5 n d l c0 c1 c2 c3 hi
  have g0 := ic.f0
  have g1 := ic.f1
  have g2 := ic.f2
  have g3 := ic.f3
  have hdz : (deep : Int) ≤ 16 := by omega
  have HV := Lib.hid (fun (w : World) (hb : Below Wb.heap.size Wb w) => valid_at A d d.length c Wb.heap.size w rfl ic.db ic.dc.1 ic.dc.2.1 hb.size (ic.dr.below hb) (Utf8Tabs_below (Utf8Tabs_below hT hbW) hb))
  have HS := Lib.hid hsz
  clear hi hsz hT
  subst hn0
  subst hd0
  have hx1 : ((l.length : Int) % 2) = 1 := by omega
  have hx3 : ¬ (l.length : Int) = 0 := by omega
  have hx4 : ((l.length : Int) != 0) = true := by simpa using hx3
  try simp only [List.length_nil] at HV
  try simp only [List.length_nil, Int.natCast_zero] at hWb
  go_enter Tryd.func11, Tryd.ntmps11
  go_wp2_with (go_at_call 19; (refine (HV.out _ (Below.refl _ _)).mono ?_); rintro e W2 ⟨rfl, b2⟩; have i2 := ic.below b2; have q0 := i2.f0; have q1 := i2.f1; have q2 := i2.f2; have q3 := i2.f3)
  all_goals
    go_ret2
    exact ⟨rfl, hbW.trans (b2.mono (by have := HS.out; omega))⟩

end Go.Proofs.YtonkkojankmhbaaDoor
