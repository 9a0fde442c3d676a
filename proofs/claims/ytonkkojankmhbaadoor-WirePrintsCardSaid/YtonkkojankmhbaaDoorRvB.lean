import Derived.Test.YtonkkojankmhbaaDoorRvA
namespace Go.Proofs.YtonkkojankmhbaaDoor
open Go.RowKit
open Wp (It)

set_option maxRecDepth 100000 in
set_option maxHeartbeats 4000000 in
theorem rv_flat0 (n : Nat) (d : List UInt8) (l : List It) (deep : Nat) (left : Int) (hl : 1 ≤ left) (hl2 : left ≤ 4096) (hd : deep ≤ 16) (c0 c1 c2 c3 : Value) (W : World) (B : Nat) (hB : B ≤ W.heap.size) (hT : Lib.Utf8Tabs 0 1 W) (hi : ItAt W B (.mk 0 n d l) [c0, c1, c2, c3]) (hd0 : d = []) (hl0 : l = []) :
    Calls Tryd.prog 11 #[.agg #[c0, c1, c2, c3], .int .i64 (deep : Int), .int .i64 left] W (RvPost W (some 1)) := by
  obtain ⟨Wb, A, c, A2, c2', cells, hWb, rfl, rfl, rfl, rfl, hbW, hsz, ic⟩ := boxed W B hB 0 n d l c0 c1 c2 c3 hi
  have g0 := ic.f0
  have g1 := ic.f1
  have g2 := ic.f2
  have g3 := ic.f3
  have hdz : (deep : Int) ≤ 16 := by omega
  have HV := Lib.hid (fun (w : World) (hb : Below Wb.heap.size Wb w) => valid_at A d d.length c Wb.heap.size w rfl ic.db ic.dc.1 ic.dc.2.1 hb.size (ic.dr.below hb) (Utf8Tabs_below (Utf8Tabs_below hT hbW) hb))
  have HS := Lib.hid hsz
  clear hi hsz hT
  subst hd0
  subst hl0
  try simp only [List.length_nil] at HV
  try simp only [List.length_nil, Int.natCast_zero] at hWb
  go_enter Tryd.func11, Tryd.ntmps11
  go_wp2_with (go_at_call 19; (refine (HV.out _ (Below.refl _ _)).mono ?_); rintro e W2 ⟨rfl, b2⟩; have i2 := ic.below b2; have q0 := i2.f0; have q1 := i2.f1; have q2 := i2.f2; have q3 := i2.f3)
  all_goals
    refine wp_loop_rounds 1 ?_
    rw [rounds_succ]
    go_wp2
    go_ret2
    exact rvp_some rfl (hbW.trans (b2.mono (by have := HS.out; omega)))

set_option maxRecDepth 100000 in
set_option maxHeartbeats 4000000 in
theorem rv_flat1 (n : Nat) (d : List UInt8) (l : List It) (deep : Nat) (left : Int) (hl : 1 ≤ left) (hl2 : left ≤ 4096) (hd : deep ≤ 16) (c0 c1 c2 c3 : Value) (W : World) (B : Nat) (hB : B ≤ W.heap.size) (hT : Lib.Utf8Tabs 0 1 W) (hi : ItAt W B (.mk 1 n d l) [c0, c1, c2, c3]) (hd0 : d = []) (hl0 : l = []) :
    Calls Tryd.prog 11 #[.agg #[c0, c1, c2, c3], .int .i64 (deep : Int), .int .i64 left] W (RvPost W (some 1)) := by
  obtain ⟨Wb, A, c, A2, c2', cells, hWb, rfl, rfl, rfl, rfl, hbW, hsz, ic⟩ := boxed W B hB 1 n d l c0 c1 c2 c3 hi
  have g0 := ic.f0
  have g1 := ic.f1
  have g2 := ic.f2
  have g3 := ic.f3
  have hdz : (deep : Int) ≤ 16 := by omega
  have HV := Lib.hid (fun (w : World) (hb : Below Wb.heap.size Wb w) => valid_at A d d.length c Wb.heap.size w rfl ic.db ic.dc.1 ic.dc.2.1 hb.size (ic.dr.below hb) (Utf8Tabs_below (Utf8Tabs_below hT hbW) hb))
  have HS := Lib.hid hsz
  clear hi hsz hT
  subst hd0
  subst hl0
  try simp only [List.length_nil] at HV
  try simp only [List.length_nil, Int.natCast_zero] at hWb
  go_enter Tryd.func11, Tryd.ntmps11
  go_wp2_with (go_at_call 19; (refine (HV.out _ (Below.refl _ _)).mono ?_); rintro e W2 ⟨rfl, b2⟩; have i2 := ic.below b2; have q0 := i2.f0; have q1 := i2.f1; have q2 := i2.f2; have q3 := i2.f3)
  all_goals
    refine wp_loop_rounds 1 ?_
    rw [rounds_succ]
    go_wp2
    go_ret2
    exact rvp_some rfl (hbW.trans (b2.mono (by have := HS.out; omega)))

set_option maxRecDepth 100000 in
set_option maxHeartbeats 4000000 in
theorem rv_flat7 (n : Nat) (d : List UInt8) (l : List It) (deep : Nat) (left : Int) (hl : 1 ≤ left) (hl2 : left ≤ 4096) (hd : deep ≤ 16) (c0 c1 c2 c3 : Value) (W : World) (B : Nat) (hB : B ≤ W.heap.size) (hT : Lib.Utf8Tabs 0 1 W) (hi : ItAt W B (.mk 7 n d l) [c0, c1, c2, c3]) (hd0 : d = []) (hl0 : l = []) (h20 : 20 ≤ n) (h22 : n ≤ 22) :
    Calls Tryd.prog 11 #[.agg #[c0, c1, c2, c3], .int .i64 (deep : Int), .int .i64 left] W (RvPost W (some 1)) := by
  obtain ⟨Wb, A, c, A2, c2', cells, hWb, rfl, rfl, rfl, rfl, hbW, hsz, ic⟩ := boxed W B hB 7 n d l c0 c1 c2 c3 hi
  have g0 := ic.f0
  have g1 := ic.f1
  have g2 := ic.f2
  have g3 := ic.f3
  have hdz : (deep : Int) ≤ 16 := by omega
  have HV := Lib.hid (fun (w : World) (hb : Below Wb.heap.size Wb w) => valid_at A d d.length c Wb.heap.size w rfl ic.db ic.dc.1 ic.dc.2.1 hb.size (ic.dr.below hb) (Utf8Tabs_below (Utf8Tabs_below hT hbW) hb))
  have HS := Lib.hid hsz
  clear hi hsz hT
  subst hd0
  subst hl0
  have hx1 : ¬ (n : Int) < 20 := by omega
  have hx2 : ¬ (22 : Int) < (n : Int) := by omega
  clear h20 h22
  try simp only [List.length_nil] at HV
  try simp only [List.length_nil, Int.natCast_zero] at hWb
  go_enter Tryd.func11, Tryd.ntmps11
  go_wp2_with (go_at_call 19; (refine (HV.out _ (Below.refl _ _)).mono ?_); rintro e W2 ⟨rfl, b2⟩; have i2 := ic.below b2; have q0 := i2.f0; have q1 := i2.f1; have q2 := i2.f2; have q3 := i2.f3)
  all_goals
    refine wp_loop_rounds 1 ?_
    rw [rounds_succ]
    go_wp2
    go_ret2
    exact rvp_some rfl (hbW.trans (b2.mono (by have := HS.out; omega)))

set_option maxRecDepth 100000 in
set_option maxHeartbeats 4000000 in
theorem rv_flat2 (n : Nat) (d : List UInt8) (l : List It) (deep : Nat) (left : Int) (hl : 1 ≤ left) (hl2 : left ≤ 4096) (hd : deep ≤ 16) (c0 c1 c2 c3 : Value) (W : World) (B : Nat) (hB : B ≤ W.heap.size) (hT : Lib.Utf8Tabs 0 1 W) (hi : ItAt W B (.mk 2 n d l) [c0, c1, c2, c3]) (hn0 : n = 0) (hl0 : l = []) :
    Calls Tryd.prog 11 #[.agg #[c0, c1, c2, c3], .int .i64 (deep : Int), .int .i64 left] W (RvPost W (some 1)) := by
  obtain ⟨Wb, A, c, A2, c2', cells, hWb, rfl, rfl, rfl, rfl, hbW, hsz, ic⟩ := boxed W B hB 2 n d l c0 c1 c2 c3 hi
  have g0 := ic.f0
  have g1 := ic.f1
  have g2 := ic.f2
  have g3 := ic.f3
  have hdz : (deep : Int) ≤ 16 := by omega
  have HV := Lib.hid (fun (w : World) (hb : Below Wb.heap.size Wb w) => valid_at A d d.length c Wb.heap.size w rfl ic.db ic.dc.1 ic.dc.2.1 hb.size (ic.dr.below hb) (Utf8Tabs_below (Utf8Tabs_below hT hbW) hb))
  have HS := Lib.hid hsz
  clear hi hsz hT
  subst hn0
  subst hl0
  try simp only [List.length_nil] at HV
  try simp only [List.length_nil, Int.natCast_zero] at hWb
  go_enter Tryd.func11, Tryd.ntmps11
  go_wp2_with (go_at_call 19; (refine (HV.out _ (Below.refl _ _)).mono ?_); rintro e W2 ⟨rfl, b2⟩; have i2 := ic.below b2; have q0 := i2.f0; have q1 := i2.f1; have q2 := i2.f2; have q3 := i2.f3)
  all_goals
    refine wp_loop_rounds 1 ?_
    rw [rounds_succ]
    go_wp2
    go_ret2
    exact rvp_some rfl (hbW.trans (b2.mono (by have := HS.out; omega)))

set_option maxRecDepth 100000 in
set_option maxHeartbeats 4000000 in
theorem rv_flat3 (n : Nat) (d : List UInt8) (l : List It) (deep : Nat) (left : Int) (hl : 1 ≤ left) (hl2 : left ≤ 4096) (hd : deep ≤ 16) (c0 c1 c2 c3 : Value) (W : World) (B : Nat) (hB : B ≤ W.heap.size) (hT : Lib.Utf8Tabs 0 1 W) (hi : ItAt W B (.mk 3 n d l) [c0, c1, c2, c3]) (hn0 : n = 0) (hl0 : l = []) (hv : vfD d = true) :
    Calls Tryd.prog 11 #[.agg #[c0, c1, c2, c3], .int .i64 (deep : Int), .int .i64 left] W (RvPost W (some 1)) := by
  obtain ⟨Wb, A, c, A2, c2', cells, hWb, rfl, rfl, rfl, rfl, hbW, hsz, ic⟩ := boxed W B hB 3 n d l c0 c1 c2 c3 hi
  have g0 := ic.f0
  have g1 := ic.f1
  have g2 := ic.f2
  have g3 := ic.f3
  have hdz : (deep : Int) ≤ 16 := by omega
  have HV := Lib.hid (fun (w : World) (hb : Below Wb.heap.size Wb w) => valid_at A d d.length c Wb.heap.size w rfl ic.db ic.dc.1 ic.dc.2.1 hb.size (ic.dr.below hb) (Utf8Tabs_below (Utf8Tabs_below hT hbW) hb))
  have HS := Lib.hid hsz
  clear hi hsz hT
  subst hn0
  subst hl0
  rw [hv] at HV
  try simp only [List.length_nil] at HV
  try simp only [List.length_nil, Int.natCast_zero] at hWb
  go_enter Tryd.func11, Tryd.ntmps11
  go_wp2_with (go_at_call 19; (refine (HV.out _ (Below.refl _ _)).mono ?_); rintro e W2 ⟨rfl, b2⟩; have i2 := ic.below b2; have q0 := i2.f0; have q1 := i2.f1; have q2 := i2.f2; have q3 := i2.f3)
  all_goals
    refine wp_loop_rounds 1 ?_
    rw [rounds_succ]
    go_wp2
    go_ret2
    exact rvp_some rfl (hbW.trans (b2.mono (by have := HS.out; omega)))

set_option maxRecDepth 100000 in
set_option maxHeartbeats 4000000 in
theorem rv_flat4 (n : Nat) (d : List UInt8) (l : List It) (deep : Nat) (left : Int) (hl : 1 ≤ left) (hl2 : left ≤ 4096) (hd : deep ≤ 16) (c0 c1 c2 c3 : Value) (W : World) (B : Nat) (hB : B ≤ W.heap.size) (hT : Lib.Utf8Tabs 0 1 W) (hi : ItAt W B (.mk 4 n d l) [c0, c1, c2, c3]) (hn0 : n = 0) (hd0 : d = []) (hl0 : l = []) :
    Calls Tryd.prog 11 #[.agg #[c0, c1, c2, c3], .int .i64 (deep : Int), .int .i64 left] W (RvPost W (some 1)) := by
  obtain ⟨Wb, A, c, A2, c2', cells, hWb, rfl, rfl, rfl, rfl, hbW, hsz, ic⟩ := boxed W B hB 4 n d l c0 c1 c2 c3 hi
  have g0 := ic.f0
  have g1 := ic.f1
  have g2 := ic.f2
  have g3 := ic.f3
  have hdz : (deep : Int) ≤ 16 := by omega
  have HV := Lib.hid (fun (w : World) (hb : Below Wb.heap.size Wb w) => valid_at A d d.length c Wb.heap.size w rfl ic.db ic.dc.1 ic.dc.2.1 hb.size (ic.dr.below hb) (Utf8Tabs_below (Utf8Tabs_below hT hbW) hb))
  have HS := Lib.hid hsz
  clear hi hsz hT
  subst hn0
  subst hd0
  subst hl0
  try simp only [List.length_nil] at HV
  try simp only [List.length_nil, Int.natCast_zero] at hWb
  go_enter Tryd.func11, Tryd.ntmps11
  go_wp2_with (go_at_call 19; (refine (HV.out _ (Below.refl _ _)).mono ?_); rintro e W2 ⟨rfl, b2⟩; have i2 := ic.below b2; have q0 := i2.f0; have q1 := i2.f1; have q2 := i2.f2; have q3 := i2.f3)
  all_goals
    refine wp_loop_rounds 1 ?_
    rw [rounds_succ]
    go_wp2
    go_ret2
    exact rvp_some rfl (hbW.trans (b2.mono (by have := HS.out; omega)))

set_option maxRecDepth 100000 in
set_option maxHeartbeats 4000000 in
theorem rv_flat5 (n : Nat) (d : List UInt8) (l : List It) (deep : Nat) (left : Int) (hl : 1 ≤ left) (hl2 : left ≤ 4096) (hd : deep ≤ 16) (c0 c1 c2 c3 : Value) (W : World) (B : Nat) (hB : B ≤ W.heap.size) (hT : Lib.Utf8Tabs 0 1 W) (hi : ItAt W B (.mk 5 n d l) [c0, c1, c2, c3]) (hn0 : n = 0) (hd0 : d = []) (hl0 : l = []) :
    Calls Tryd.prog 11 #[.agg #[c0, c1, c2, c3], .int .i64 (deep : Int), .int .i64 left] W (RvPost W (some 1)) := by
  obtain ⟨Wb, A, c, A2, c2', cells, hWb, rfl, rfl, rfl, rfl, hbW, hsz, ic⟩ := boxed W B hB 5 n d l c0 c1 c2 c3 hi
  have g0 := ic.f0
  have g1 := ic.f1
  have g2 := ic.f2
  have g3 := ic.f3
  have hdz : (deep : Int) ≤ 16 := by omega
  have HV := Lib.hid (fun (w : World) (hb : Below Wb.heap.size Wb w) => valid_at A d d.length c Wb.heap.size w rfl ic.db ic.dc.1 ic.dc.2.1 hb.size (ic.dr.below hb) (Utf8Tabs_below (Utf8Tabs_below hT hbW) hb))
  have HS := Lib.hid hsz
  clear hi hsz hT
  subst hn0
  subst hd0
  subst hl0
  try simp only [List.length_nil] at HV
  try simp only [List.length_nil, Int.natCast_zero] at hWb
  go_enter Tryd.func11, Tryd.ntmps11
  go_wp2_with (go_at_call 19; (refine (HV.out _ (Below.refl _ _)).mono ?_); rintro e W2 ⟨rfl, b2⟩; have i2 := ic.below b2; have q0 := i2.f0; have q1 := i2.f1; have q2 := i2.f2; have q3 := i2.f3)
  all_goals
    refine wp_loop_rounds 1 ?_
    rw [rounds_succ]
    go_wp2
    go_ret2
    exact rvp_some rfl (hbW.trans (b2.mono (by have := HS.out; omega)))

set_option maxRecDepth 100000 in
set_option maxHeartbeats 4000000 in
theorem rv_list4 (n : Nat) (d : List UInt8) (l : List It) (deep : Nat) (left : Int) (hl : 1 ≤ left) (hl2 : left ≤ 4096) (hd : deep ≤ 16) (c0 c1 c2 c3 : Value) (W : World) (B : Nat) (hB : B ≤ W.heap.size) (hT : Lib.Utf8Tabs 0 1 W) (hi : ItAt W B (.mk 4 n d l) [c0, c1, c2, c3]) (hn0 : n = 0) (hd0 : d = []) (hx : ¬ l.length = 0) (ih : ∀ i ∈ l, RvOK i) :
    Calls Tryd.prog 11 #[.agg #[c0, c1, c2, c3], .int .i64 (deep : Int), .int .i64 left] W (RvPost W (Wp.rValidL vfD l (deep + 1) left 1)) := by
  obtain ⟨Wb, A, c, A2, c2', cells, hWb, rfl, rfl, rfl, rfl, hbW, hsz, ic⟩ := boxed W B hB 4 n d l c0 c1 c2 c3 hi
  have g0 := ic.f0
  have g1 := ic.f1
  have g2 := ic.f2
  have g3 := ic.f3
  have hdz : (deep : Int) ≤ 16 := by omega
  have HV := Lib.hid (fun (w : World) (hb : Below Wb.heap.size Wb w) => valid_at A d d.length c Wb.heap.size w rfl ic.db ic.dc.1 ic.dc.2.1 hb.size (ic.dr.below hb) (Utf8Tabs_below (Utf8Tabs_below hT hbW) hb))
  have HS := Lib.hid hsz
  have HI := Lib.hid ih
  have HT := Lib.hid (fun (w : World) (hb : Below Wb.heap.size Wb w) => Utf8Tabs_below (Utf8Tabs_below hT hbW) hb)
  obtain ⟨R, hR⟩ : ∃ R, Wp.rValidL vfD l (deep + 1) left 1 = R := ⟨_, rfl⟩
  rw [hR]
  have HR := Lib.hid hR
  clear hi hsz hT ih hR
  subst hn0
  subst hd0
  have hxa : ((l.length : Int) == 0) = false := by simpa using hx
  have hxb : ((l.length : Int) != 0) = true := by simpa using hx
  have hxc : ¬ (l.length : Int) = 0 := by omega
  clear hx
  have hlb := ic.lb
  try simp only [List.length_nil] at HV
  try simp only [List.length_nil, Int.natCast_zero] at hWb
  go_enter Tryd.func11, Tryd.ntmps11
  go_wp2_with (go_at_call 19; (refine (HV.out _ (Below.refl _ _)).mono ?_); rintro e W2 ⟨rfl, b2⟩; have i2 := ic.below b2; have q0 := i2.f0; have q1 := i2.f1; have q2 := i2.f2; have q3 := i2.f3)
  go_loopw [11, 12] (fun s11 s12 wr => ∃ (q m : Nat), q ≤ l.length ∧ s11 = .int .i64 (m : Int) ∧ s12 = .int .i64 (q : Int) ∧ Below Wb.heap.size Wb wr ∧ (m : Int) ≤ left ∧ Wp.rValidL vfD (l.drop q) (deep + 1) left m = R)
    (fun _ s _ => l.length - (intOf s).toNat)
  case atStart => exact ⟨0, 1, Nat.zero_le _, rfl, rfl, b2, by omega, HR.out⟩
  case round =>
    obtain ⟨q, m, hq, rfl, rfl, hbq, hm, hqR⟩ := hrel
    have HQ := Lib.hid hqR
    clear hqR
    have icq := ic.below hbq
    have g3q : wr.cell? ⟨W.heap.size, 3, none⟩ = _ := icq.f3
    by_cases hlt : q < l.length
    · obtain ⟨g2, o2, rfl, hpq⟩ := icq.nth q hlt
      have hdrop : l.drop q = l[q] :: l.drop (q + 1) := List.drop_eq_getElem_cons hlt
      have hmem := List.getElem_mem hlt
      generalize hiq : l[q] = iq at *
      obtain ⟨hg2, cs, hit, hcs⟩ := hpq
      obtain ⟨x0, x1, x2, x3, rfl⟩ : ∃ x0 x1 x2 x3, cs = [x0, x1, x2, x3] := by
        obtain ⟨k', n', d', l'⟩ := iq
        simp only [ItAt] at hit
        obtain ⟨_, _, _, _, _, e, _⟩ := hit
        exact ⟨_, _, _, _, e⟩
      have y0 : wr.cell? ⟨g2, o2 + q * 4, none⟩ = some x0 := hcs 0 (by omega)
      have y1 : wr.cell? ⟨g2, o2 + q * 4 + 1, none⟩ = some x1 := hcs 1 (by omega)
      have y2 : wr.cell? ⟨g2, o2 + q * 4 + 2, none⟩ = some x2 := hcs 2 (by omega)
      have y3 : wr.cell? ⟨g2, o2 + q * 4 + 3, none⟩ = some x3 := hcs 3 (by omega)
      have hc2 := HI.out iq hmem x0 x1 x2 x3 wr Wb.heap.size (deep + 1) (left - m) hbq.size (HT.out _ hbq) (by omega) (by omega) (by omega) hit
      have hcast : ((deep + 1 : Nat) : Int) = (deep : Int) + 1 := by omega
      rw [hcast] at hc2
      cases hw : Wp.rValid vfD iq (deep + 1) (left - m) with
      | none =>
        rw [hw] at hc2
        have HC2 := Lib.hid hc2
        have HRN : Hid (R = none) := Lib.hid (by rw [← HQ.out, hdrop]; simp [Wp.rValidL, hw])
        clear hit hcs hw hdrop hmem hiq hc2 hcast
        go_wp2_with (go_at_call 11; (refine (HC2.out).mono ?_); rintro e W3 ⟨b3, rfl⟩)
        go_ret2
        exact rvp_none HRN.out (hbW.trans ((hbq.trans (b3.mono hbq.size)).mono (by have := HS.out; omega)))
      | some t =>
        rw [hw] at hc2
        have HC2 := Lib.hid hc2
        have hle := rValid_le vfD iq (deep + 1) (left - m) t hw
        have HRN : Hid (Wp.rValidL vfD (l.drop (q + 1)) (deep + 1) left (m + t) = R) := Lib.hid (by rw [← HQ.out, hdrop]; simp [Wp.rValidL, hw])
        have HB3 := Lib.hid (show ∀ W3, Below wr.heap.size wr W3 → Below Wb.heap.size Wb W3 from fun W3 b3 => hbq.trans (b3.mono hbq.size))
        clear hit hcs hw hdrop hmem hiq hc2 hcast
        go_wp2_with (go_at_call 11; (refine (HC2.out).mono ?_); rintro e W3 ⟨b3, rfl⟩)
        go_roundw
        case rel => exact ⟨q + 1, m + t, by omega, by go_num, by go_num, HB3.out _ b3, by omega, HRN.out⟩
        case measure => simp [intOf]; omega
    · have hRn : R = some m := by
        rw [← HQ.out, List.drop_of_length_le (by omega)]; simp [Wp.rValidL]
      have HRN := Lib.hid hRn
      clear hRn
      go_wp2
      go_ret2
      exact rvp_some HRN.out (hbW.trans (hbq.mono (by have := HS.out; omega)))

set_option maxRecDepth 100000 in
set_option maxHeartbeats 4000000 in
theorem rv_list5 (n : Nat) (d : List UInt8) (l : List It) (deep : Nat) (left : Int) (hl : 1 ≤ left) (hl2 : left ≤ 4096) (hd : deep ≤ 16) (c0 c1 c2 c3 : Value) (W : World) (B : Nat) (hB : B ≤ W.heap.size) (hT : Lib.Utf8Tabs 0 1 W) (hi : ItAt W B (.mk 5 n d l) [c0, c1, c2, c3]) (hn0 : n = 0) (hd0 : d = []) (hx : ¬ l.length = 0) (hev : l.length % 2 = 0) (ih : ∀ i ∈ l, RvOK i) :
    Calls Tryd.prog 11 #[.agg #[c0, c1, c2, c3], .int .i64 (deep : Int), .int .i64 left] W (RvPost W (Wp.rValidL vfD l (deep + 1) left 1)) := by
  obtain ⟨Wb, A, c, A2, c2', cells, hWb, rfl, rfl, rfl, rfl, hbW, hsz, ic⟩ := boxed W B hB 5 n d l c0 c1 c2 c3 hi
  have g0 := ic.f0
  have g1 := ic.f1
  have g2 := ic.f2
  have g3 := ic.f3
  have hdz : (deep : Int) ≤ 16 := by omega
  have HV := Lib.hid (fun (w : World) (hb : Below Wb.heap.size Wb w) => valid_at A d d.length c Wb.heap.size w rfl ic.db ic.dc.1 ic.dc.2.1 hb.size (ic.dr.below hb) (Utf8Tabs_below (Utf8Tabs_below hT hbW) hb))
  have HS := Lib.hid hsz
  have HI := Lib.hid ih
  have HT := Lib.hid (fun (w : World) (hb : Below Wb.heap.size Wb w) => Utf8Tabs_below (Utf8Tabs_below hT hbW) hb)
  obtain ⟨R, hR⟩ : ∃ R, Wp.rValidL vfD l (deep + 1) left 1 = R := ⟨_, rfl⟩
  rw [hR]
  have HR := Lib.hid hR
  clear hi hsz hT ih hR
  subst hn0
  subst hd0
  have hx1 : (l.length : Int) % 2 = 0 := by omega
  have hxa : ((l.length : Int) == 0) = false := by simpa using hx
  have hxb : ((l.length : Int) != 0) = true := by simpa using hx
  have hxc : ¬ (l.length : Int) = 0 := by omega
  clear hx
  have hlb := ic.lb
  try simp only [List.length_nil] at HV
  try simp only [List.length_nil, Int.natCast_zero] at hWb
  go_enter Tryd.func11, Tryd.ntmps11
  go_wp2_with (go_at_call 19; (refine (HV.out _ (Below.refl _ _)).mono ?_); rintro e W2 ⟨rfl, b2⟩; have i2 := ic.below b2; have q0 := i2.f0; have q1 := i2.f1; have q2 := i2.f2; have q3 := i2.f3)
  clear hx1
  go_loopw [11, 12] (fun s11 s12 wr => ∃ (q m : Nat), q ≤ l.length ∧ s11 = .int .i64 (m : Int) ∧ s12 = .int .i64 (q : Int) ∧ Below Wb.heap.size Wb wr ∧ (m : Int) ≤ left ∧ Wp.rValidL vfD (l.drop q) (deep + 1) left m = R)
    (fun _ s _ => l.length - (intOf s).toNat)
  case atStart => exact ⟨0, 1, Nat.zero_le _, rfl, rfl, b2, by omega, HR.out⟩
  case round =>
    obtain ⟨q, m, hq, rfl, rfl, hbq, hm, hqR⟩ := hrel
    have HQ := Lib.hid hqR
    clear hqR
    have icq := ic.below hbq
    have g3q : wr.cell? ⟨W.heap.size, 3, none⟩ = _ := icq.f3
    by_cases hlt : q < l.length
    · obtain ⟨g2, o2, rfl, hpq⟩ := icq.nth q hlt
      have hdrop : l.drop q = l[q] :: l.drop (q + 1) := List.drop_eq_getElem_cons hlt
      have hmem := List.getElem_mem hlt
      generalize hiq : l[q] = iq at *
      obtain ⟨hg2, cs, hit, hcs⟩ := hpq
      obtain ⟨x0, x1, x2, x3, rfl⟩ : ∃ x0 x1 x2 x3, cs = [x0, x1, x2, x3] := by
        obtain ⟨k', n', d', l'⟩ := iq
        simp only [ItAt] at hit
        obtain ⟨_, _, _, _, _, e, _⟩ := hit
        exact ⟨_, _, _, _, e⟩
      have y0 : wr.cell? ⟨g2, o2 + q * 4, none⟩ = some x0 := hcs 0 (by omega)
      have y1 : wr.cell? ⟨g2, o2 + q * 4 + 1, none⟩ = some x1 := hcs 1 (by omega)
      have y2 : wr.cell? ⟨g2, o2 + q * 4 + 2, none⟩ = some x2 := hcs 2 (by omega)
      have y3 : wr.cell? ⟨g2, o2 + q * 4 + 3, none⟩ = some x3 := hcs 3 (by omega)
      have hc2 := HI.out iq hmem x0 x1 x2 x3 wr Wb.heap.size (deep + 1) (left - m) hbq.size (HT.out _ hbq) (by omega) (by omega) (by omega) hit
      have hcast : ((deep + 1 : Nat) : Int) = (deep : Int) + 1 := by omega
      rw [hcast] at hc2
      cases hw : Wp.rValid vfD iq (deep + 1) (left - m) with
      | none =>
        rw [hw] at hc2
        have HC2 := Lib.hid hc2
        have HRN : Hid (R = none) := Lib.hid (by rw [← HQ.out, hdrop]; simp [Wp.rValidL, hw])
        clear hit hcs hw hdrop hmem hiq hc2 hcast
        go_wp2_with (go_at_call 11; (refine (HC2.out).mono ?_); rintro e W3 ⟨b3, rfl⟩)
        go_ret2
        exact rvp_none HRN.out (hbW.trans ((hbq.trans (b3.mono hbq.size)).mono (by have := HS.out; omega)))
      | some t =>
        rw [hw] at hc2
        have HC2 := Lib.hid hc2
        have hle := rValid_le vfD iq (deep + 1) (left - m) t hw
        have HRN : Hid (Wp.rValidL vfD (l.drop (q + 1)) (deep + 1) left (m + t) = R) := Lib.hid (by rw [← HQ.out, hdrop]; simp [Wp.rValidL, hw])
        have HB3 := Lib.hid (show ∀ W3, Below wr.heap.size wr W3 → Below Wb.heap.size Wb W3 from fun W3 b3 => hbq.trans (b3.mono hbq.size))
        clear hit hcs hw hdrop hmem hiq hc2 hcast
        go_wp2_with (go_at_call 11; (refine (HC2.out).mono ?_); rintro e W3 ⟨b3, rfl⟩)
        go_roundw
        case rel => exact ⟨q + 1, m + t, by omega, by go_num, by go_num, HB3.out _ b3, by omega, HRN.out⟩
        case measure => simp [intOf]; omega
    · have hRn : R = some m := by
        rw [← HQ.out, List.drop_of_length_le (by omega)]; simp [Wp.rValidL]
      have HRN := Lib.hid hRn
      clear hRn
      go_wp2
      go_ret2
      exact rvp_some HRN.out (hbW.trans (hbq.mono (by have := HS.out; omega)))

end Go.Proofs.YtonkkojankmhbaaDoor
