import Derived.Test.YtonkkojankmhbaaDoorMap
import Derived.Defers
import Derived.Recover
import Derived.Laws.Pointers
namespace Go.Proofs.YtonkkojankmhbaaDoor
open Go.RowKit
open Wp (It)

theorem run_assert (w : World) : (Instr.typeAssert (.iface 48 (.agg #[])) 20 48 true).run Tryd.prog w = .ok (.tuple #[.agg #[], .bool true]) w := by kernel_rfl
theorem run_assert_nil (w : World) : (Instr.typeAssert .nilIface 20 48 true).run Tryd.prog w = .ok (.tuple #[.agg #[], .bool false]) w := by kernel_rfl

theorem catch_broken (g : Nat) (x : Int) (older : List PanicEntry) (w : World) (hc : w.cell? ⟨g, 0, none⟩ = some (.int .i64 x)) (hz : w.frozen? ⟨g, 0, none⟩ = false) (hp : g < w.heap.size) :
    CallsD Tryd.prog 13 #[.pointer (some ⟨g, 0, none⟩)] (.panicking (⟨.iface 48 (.agg #[]), false, false⟩ :: older)) w fun e u' w' =>
      e = .returned (.tuple #[]) ∧ u' = .panicking (⟨.iface 48 (.agg #[]), true, false⟩ :: older) ∧ w' = (w.alloc (.cells #[] 48)).setCell ⟨g, 0, none⟩ (.int .i64 2) := by
  have ra := run_assert
  refine callsD_of_wpS Tryd.func13 rfl fun c₀ cs hu => ?_
  apply wpS_seq
  apply wpS_region
  simp [wpOpsS, go_sem, recoverD, hu, Tryd.ntmps13, Exit.thenS, ra]
  apply wpS_seq
  apply wpS_region
  simp [wpOpsS, go_sem, Exit.thenS]
  refine wpS_cond (t := true) (by simp [Act.eval, Array.replicate]) ?_
  simp only [if_true]
  apply wpS_region
  have hc' : (w.alloc (.cells #[] 48)).cell? ⟨g, 0, none⟩ = some (.int .i64 x) := (World.cell?_alloc_past _ _ _ hp).trans hc
  have hz' : (w.alloc (.cells #[] 48)).frozen? ⟨g, 0, none⟩ = false := (World.frozen?_alloc_past _ _ _ hp).trans hz
  simp [wpOpsS, go_sem, hc', hz', bodyPostS, results, Tryd.results13]

theorem catch_idle (p : Addr) (w : World) :
    CallsD Tryd.prog 13 #[.pointer (some p)] .returning w fun e u' w' => e = .returned (.tuple #[]) ∧ u' = .returning ∧ w' = w.alloc (.cells #[] 48) := by
  have ra := run_assert_nil
  refine callsD_of_wpS Tryd.func13 rfl fun c₀ cs hu => ?_
  apply wpS_seq
  apply wpS_region
  simp [wpOpsS, go_sem, recoverD, hu, Tryd.ntmps13, Exit.thenS, ra]
  apply wpS_seq
  apply wpS_region
  simp [wpOpsS, go_sem, Exit.thenS]
  refine wpS_cond (t := false) (by simp [Act.eval, Array.replicate]) ?_
  simp only [Bool.false_eq_true, if_false]
  refine wpS_of_wp (wp_skip ?_)
  cases c₀
  simp_all [bodyPostS, results, Tryd.results13]

/-- guard, where what it runs returns -/
theorem guard_ok (cap : Array Value) (w : World) (Q : World → Prop) (h : Calls Tryd.prog 9 cap (w.alloc (.cells #[.int .i64 0] 25)) fun e w' => e = .returned (.tuple #[]) ∧ Q w' ∧ w'.cell? ⟨w.heap.size, 0, none⟩ = some (.int .i64 0) ∧ w'.frozen? ⟨w.heap.size, 0, none⟩ = false ∧ w.heap.size < w'.heap.size) :
    Calls Tryd.prog 8 #[.func (.func 9) #[] cap] w fun e w' => e = .returned (.int .i64 0) ∧ ∃ w1, Q w1 ∧ w' = (w1.setCell ⟨w.heap.size, 0, none⟩ (.int .i64 0)).alloc (.cells #[] 48) := by
  have hmf : ∀ (fn : Fn) (first cap : Array Value) (w : World), (Instr.makeFunc fn first cap).run Tryd.prog w = .ok (.func fn first cap) w := fun _ _ _ _ => rfl
  have H := Lib.hid h
  clear h
  go_enter_defers Tryd.func8, Tryd.ntmps8
  go_wp2_with (go_at_call 9; refine (H.out).mono ?_; rintro e w1 ⟨rfl, hq, hc1, hf1, hs1⟩)
  refine leaves_cons (f := 13) (args := #[.pointer (some ⟨w.heap.size, 0, none⟩)]) (by simp) (by simp [go_sem]) ?_
  refine (catch_idle ⟨w.heap.size, 0, none⟩ _).mono ?_
  rintro e u' w'' ⟨rfl, rfl, rfl⟩
  have hc2 : (w1.setCell ⟨w.heap.size, 0, none⟩ (.int .i64 0)).cell? ⟨w.heap.size, 0, none⟩ = some (.int .i64 0) := by
    rw [World.cell?_setCell_same _ _ _ hc1]
  have hc3 : ((w1.setCell ⟨w.heap.size, 0, none⟩ (.int .i64 0)).alloc (.cells #[] 48)).cell? ⟨w.heap.size, 0, none⟩ = some (.int .i64 0) := (World.cell?_alloc_past _ _ _ (by simpa [World.setCell] using hs1)).trans hc2
  simp [Leaves, settle, results, Tryd.results8, go_sem, hc3]
  exact ⟨w1, hq, rfl⟩

/-- guard, where what it runs throws -/
theorem guard_no (cap : Array Value) (w : World) (Q : World → Prop) (h : Calls Tryd.prog 9 cap (w.alloc (.cells #[.int .i64 0] 25)) fun e w' => e = .panicked brokenChain ∧ Q w' ∧ w'.cell? ⟨w.heap.size, 0, none⟩ = some (.int .i64 0) ∧ w'.frozen? ⟨w.heap.size, 0, none⟩ = false ∧ w.heap.size < w'.heap.size) :
    Calls Tryd.prog 8 #[.func (.func 9) #[] cap] w fun e w' => e = .returned (.int .i64 2) ∧ ∃ w1, Q w1 ∧ w' = (w1.alloc (.cells #[] 48)).setCell ⟨w.heap.size, 0, none⟩ (.int .i64 2) := by
  have hmf : ∀ (fn : Fn) (first cap : Array Value) (w : World), (Instr.makeFunc fn first cap).run Tryd.prog w = .ok (.func fn first cap) w := fun _ _ _ _ => rfl
  have H := Lib.hid h
  clear h
  go_enter_defers Tryd.func8, Tryd.ntmps8
  go_wp2_with (go_at_call 9; refine (H.out).mono ?_; rintro e w1 ⟨rfl, hq, hc1, hf1, hs1⟩)
  refine leaves_cons (f := 13) (args := #[.pointer (some ⟨w.heap.size, 0, none⟩)]) (by simp) (by simp [go_sem]) ?_
  refine (catch_broken w.heap.size 0 [] _ hc1 hf1 hs1).mono ?_
  rintro e u' w'' ⟨rfl, rfl, rfl⟩
  have hc2 : (w1.alloc (.cells #[] 48)).cell? ⟨w.heap.size, 0, none⟩ = some (.int .i64 0) := (World.cell?_alloc_past _ _ _ hs1).trans hc1
  have hc3 : ((w1.alloc (.cells #[] 48)).setCell ⟨w.heap.size, 0, none⟩ (.int .i64 2)).cell? ⟨w.heap.size, 0, none⟩ = some (.int .i64 2) := by
    rw [World.cell?_setCell_same _ _ _ hc2]
  simp [Leaves, settle, results, Tryd.results8, go_sem, hc3]
  exact ⟨w1, hq, rfl⟩

theorem print1_any (vf : List UInt8 → Bool) (i : It) (hI : ItemOK vf i) (base bw g o B vw : Nat) (W : World) (v : Value) (hw : WS W base bw 4096 v []) (hB : B ≤ base) (hs : base ≤ W.heap.size) (hp : PtrIt W B i g o) (hv : W.cell? ⟨vw, 0, none⟩ = some (.pointer (some ⟨bw, 0, none⟩))) :
    Calls Tryd.prog 9 #[.pointer (some ⟨vw, 0, none⟩), .pointer (some ⟨g, o, none⟩)] W (ItemPost W base bw v [] (Wp.pItem vf i 1 4096 [])) := by
  have HC := Lib.hid (hI base bw g o B W 4096 1 v [] hw (by omega) (by omega) (by omega) hB hs (by simp) hp)
  clear hI
  cases hr : Wp.pItem vf i 1 4096 [] with
  | none =>
    rw [hr] at HC
    go_enter Tryd.func9, Tryd.ntmps9
    go_wp2_with (go_at_call 10; refine (HC.out).mono ?_; rintro e W2 ⟨rfl, v2, b2⟩)
    exact ⟨rfl, rfl, v2, b2⟩
  | some r =>
    obtain ⟨l2, b2⟩ := r
    rw [hr] at HC
    go_enter Tryd.func9, Tryd.ntmps9
    go_wp2_with (go_at_call 10; refine (HC.out).mono ?_; rintro e W2 ⟨rfl, v2, h2, a2⟩)
    go_end0
    exact ⟨rfl, v2, h2, a2⟩

/-- what Print answers -/
def PrintPost (W : World) (r : Option (Int × List UInt8)) (e : Ending) (W' : World) : Prop :=
  Below W.heap.size W W' ∧ match r with
    | some (_, bs) => ∃ A c, e = .returned (.tuple #[.slice A bs.length c, .int .i64 0]) ∧ RB W' A bs
    | none => e = .returned (.tuple #[.slice none 0 0, .int .i64 2])


def w3 (Wb : World) : World := (Wb.alloc (.cells #[.int .i64 4096, .slice none 0 0] 41)).alloc (.cells #[.pointer (some ⟨Wb.heap.size, 0, none⟩)] 37)
def w4 (Wb : World) : World := (w3 Wb).alloc (.cells #[.int .i64 0] 25)

theorem w3_size (Wb : World) : (w3 Wb).heap.size = Wb.heap.size + 2 := by simp [w3]
theorem w4_size (Wb : World) : (w4 Wb).heap.size = Wb.heap.size + 3 := by simp [w4, w3_size]
theorem w4_old (Wb : World) (k : Nat) (h : k < Wb.heap.size) : (w4 Wb).heap[k]? = Wb.heap[k]? := by
  refine (heap_alloc_old (w3 Wb) _ (by rw [w3_size]; omega)).trans ?_
  refine (heap_alloc_old (Wb.alloc _) _ (by simp; omega)).trans ?_
  exact heap_alloc_old Wb _ h
theorem w4_wr (Wb : World) : (w4 Wb).heap[Wb.heap.size]? = some (.cells #[.int .i64 4096, .slice none 0 0] 41 (0, 0)) := by
  refine (heap_alloc_old (w3 Wb) _ (by rw [w3_size]; omega)).trans ?_
  refine (heap_alloc_old (Wb.alloc _) _ (by simp)).trans ?_
  exact heap_alloc_new Wb _
theorem w4_var (Wb : World) : (w4 Wb).heap[Wb.heap.size + 1]? = some (.cells #[.pointer (some ⟨Wb.heap.size, 0, none⟩)] 37 (0, 0)) := by
  refine (heap_alloc_old (w3 Wb) _ (by rw [w3_size]; omega)).trans ?_
  have := heap_alloc_new (Wb.alloc (.cells #[.int .i64 4096, .slice none 0 0] 41)) (.cells #[.pointer (some ⟨Wb.heap.size, 0, none⟩)] 37)
  rw [show (Wb.alloc (.cells #[.int .i64 4096, .slice none 0 0] 41)).heap.size = Wb.heap.size + 1 from by simp] at this
  exact this
theorem w4_code (Wb : World) : (w4 Wb).heap[Wb.heap.size + 2]? = some (.cells #[.int .i64 0] 25 (0, 0)) := by
  have := heap_alloc_new (w3 Wb) (.cells #[.int .i64 0] 25)
  rw [w3_size] at this
  exact this
theorem w4_below (Wb : World) : Below Wb.heap.size Wb (w4 Wb) := (((Below.refl _ Wb).alloc (Nat.le_refl _) _).alloc (by simp) _).alloc (by simp; omega) _

theorem print_item (vf : List UInt8 → Bool) (i : It) (hI : ItemOK vf i) (Wb : World) (g : Nat) (hg : g + 1 = Wb.heap.size) (hp : PtrIt Wb Wb.heap.size i g 0) :
    Calls Tryd.prog 9 #[.pointer (some ⟨Wb.heap.size + 1, 0, none⟩), .pointer (some ⟨g, 0, none⟩)] (w4 Wb) (ItemPost (w4 Wb) Wb.heap.size Wb.heap.size (.slice none 0 0) [] (Wp.pItem vf i 1 4096 [])) :=
  print1_any vf i hI Wb.heap.size Wb.heap.size g 0 Wb.heap.size (Wb.heap.size + 1) (w4 Wb) (.slice none 0 0) ⟨w4_wr Wb, World.ownsRow_nil _ _ _ _, Nat.le_refl _⟩ (Nat.le_refl _) (by rw [w4_size]; omega) (hp.below (w4_below Wb))
    (Blk.cell (t := 37) (w4_var Wb) 0)

theorem print_no (vf : List UInt8 → Bool) (i : It) (hI : ItemOK vf i) (Wb : World) (g : Nat) (hg : g + 1 = Wb.heap.size) (hp : PtrIt Wb Wb.heap.size i g 0) (hr : Wp.pItem vf i 1 4096 [] = none) :
    Calls Tryd.prog 8 #[.func (.func 9) #[] #[.pointer (some ⟨Wb.heap.size + 1, 0, none⟩), .pointer (some ⟨g, 0, none⟩)]] (w3 Wb) fun e w' => e = .returned (.int .i64 2) ∧ Below Wb.heap.size Wb w' := by
  have h := print_item vf i hI Wb g hg hp
  rw [hr] at h
  refine (guard_no _ (w3 Wb) (fun w => Below Wb.heap.size Wb w) (h.mono ?_)).mono ?_
  · rintro e w' ⟨rfl, v', ha⟩
    have hb : (w4 Wb).heap.size ≤ w'.heap.size := ha.size
    have hcode := (ha.block (Wb.heap.size + 2) (by rw [w4_size]; omega) (by omega) (by simp [Value.ownBlock])).trans (w4_code Wb)
    refine ⟨rfl, ?_, ?_, ?_, ?_⟩
    · refine (w4_below Wb).trans ⟨ha.os, ha.tape, ha.output, ha.size, fun k hk => ha.block k (by rw [w4_size]; omega) (by omega) (by simp [Value.ownBlock])⟩
    · rw [w3_size]; exact Blk.cell (t := 25) hcode 0
    · rw [w3_size]; exact Blk.frozen (t := 25) hcode 0
    · rw [w3_size]; rw [w4_size] at hb; omega
  · rintro e w' ⟨rfl, w1, hb, rfl⟩
    refine ⟨rfl, (hb.alloc hb.size _).setCell (by rw [w3_size]; show Wb.heap.size ≤ Wb.heap.size + 2; omega) _⟩

theorem print_yes (vf : List UInt8 → Bool) (i : It) (hI : ItemOK vf i) (Wb : World) (g : Nat) (hg : g + 1 = Wb.heap.size) (hp : PtrIt Wb Wb.heap.size i g 0) (l2 : Int) (bs : List UInt8) (hr : Wp.pItem vf i 1 4096 [] = some (l2, bs)) :
    Calls Tryd.prog 8 #[.func (.func 9) #[] #[.pointer (some ⟨Wb.heap.size + 1, 0, none⟩), .pointer (some ⟨g, 0, none⟩)]] (w3 Wb) fun e w' => e = .returned (.int .i64 0) ∧ Below Wb.heap.size Wb w' ∧ ∃ A c, w'.cell? ⟨Wb.heap.size + 1, 0, none⟩ = some (.pointer (some ⟨Wb.heap.size, 0, none⟩)) ∧ w'.cell? ⟨Wb.heap.size, 1, none⟩ = some (.slice A bs.length c) ∧ RB w' A bs := by
  have h := print_item vf i hI Wb g hg hp
  rw [hr] at h
  refine (guard_ok _ (w3 Wb) (fun w => ∃ v', WS w Wb.heap.size Wb.heap.size l2 v' bs ∧ Adv (w4 Wb) Wb.heap.size (.slice none 0 0) 0 w v') (h.mono ?_)).mono ?_
  · rintro e w' ⟨rfl, v', hw, ha⟩
    have hb : (w4 Wb).heap.size ≤ w'.heap.size := ha.size
    have hcode := (ha.block (Wb.heap.size + 2) (by rw [w4_size]; omega) (by omega) (by simp [Value.ownBlock])).trans (w4_code Wb)
    refine ⟨rfl, ⟨v', hw, ha⟩, ?_, ?_, ?_⟩
    · rw [w3_size]; exact Blk.cell (t := 25) hcode 0
    · rw [w3_size]; exact Blk.frozen (t := 25) hcode 0
    · rw [w3_size]; rw [w4_size] at hb; omega
  · rintro e w' ⟨rfl, w1, ⟨v', hw, ha⟩, rfl⟩
    have hb : (w4 Wb).heap.size ≤ w1.heap.size := ha.size
    rw [w4_size] at hb
    have hb1 : Below Wb.heap.size Wb w1 := (w4_below Wb).trans ⟨ha.os, ha.tape, ha.output, ha.size, fun k hk => ha.block k (by rw [w4_size]; omega) (by omega) (by simp [Value.ownBlock])⟩
    have hvar := (ha.block (Wb.heap.size + 1) (by rw [w4_size]; omega) (by omega) (by simp [Value.ownBlock])).trans (w4_var Wb)
    have hcode := (ha.block (Wb.heap.size + 2) (by rw [w4_size]; omega) (by omega) (by simp [Value.ownBlock])).trans (w4_code Wb)
    have hkeep : ∀ k, k < w1.heap.size → k ≠ Wb.heap.size + 2 → ((w1.setCell ⟨(w3 Wb).heap.size, 0, none⟩ (.int .i64 0)).alloc (.cells #[] 48)).heap[k]? = w1.heap[k]? := fun k hk hne => by
      rw [w3_size]
      refine (heap_alloc_old _ _ (by simpa [World.setCell] using hk)).trans ?_
      exact Below.heap_setCell w1 ⟨Wb.heap.size + 2, 0, none⟩ _ k hne
    obtain ⟨A, c, rfl⟩ := own_slice hw.own
    refine ⟨rfl, ?_, A, c, ?_, ?_, ?_⟩
    · refine (hb1.setCell (by rw [w3_size]; show Wb.heap.size ≤ Wb.heap.size + 2; omega) _).alloc (by simp [World.setCell]; omega) _
    · exact (cell_of_heap (hkeep _ (by omega) (by omega))).trans (Blk.cell (t := 37) hvar 0)
    · exact (cell_of_heap (hkeep _ (by omega) (by omega))).trans (Blk.cell (t := 41) hw.blk 1)
    · intro hne
      obtain ⟨g', c', e, _, _, hg'⟩ := own_form hw.own (List.length_pos_iff.2 hne)
      simp only [Value.slice.injEq, true_and] at e
      obtain ⟨rfl, rfl⟩ := e
      refine ⟨_, rfl, fun j x hx => ?_⟩
      have hne' : g' ≠ Wb.heap.size + 2 := by
        intro e
        subst e
        exact own_blk_ne hw.own (g := Wb.heap.size + 2) (t := 25) hcode (by decide) rfl
      rw [add0]
      refine (cell_of_heap (hkeep _ hg' hne')).trans ?_
      have hj : j < bs.length := (List.getElem?_eq_some_iff.1 hx).1
      rw [own_cell hw.own (g := g') rfl (by simpa using hj), List.getElem?_map, hx]
      rfl

set_option maxHeartbeats 2000000 in
theorem print_any (vf : List UInt8 → Bool) (i : It) (hI : ItemOK vf i) (c0 c1 c2 c3 : Value) (W : World) (hi : ItAt W W.heap.size i [c0, c1, c2, c3]) :
    Calls Tryd.prog 5 #[.agg #[c0, c1, c2, c3]] W (PrintPost W (Wp.pItem vf i 1 4096 [])) := by
  obtain ⟨Wb, hWb⟩ : ∃ Wb, W.alloc (.cells #[c0, c1, c2, c3] 31) = Wb := ⟨_, rfl⟩
  have hmf : ∀ (fn : Fn) (first cap : Array Value) (w : World), (Instr.makeFunc fn first cap).run Tryd.prog w = .ok (.func fn first cap) w := fun _ _ _ _ => rfl
  have hbW : Below W.heap.size W Wb := by rw [← hWb]; exact (Below.refl _ W).alloc (Nat.le_refl _) _
  have hsz : W.heap.size + 1 = Wb.heap.size := by rw [← hWb]; simp
  have hp : PtrIt Wb Wb.heap.size i W.heap.size 0 := by
    refine ⟨by omega, [c0, c1, c2, c3], ItAt.more (by omega) i _ (ItAt.keep (fun p hp => hbW.cell hp) i _ hi), fun j hj => ?_⟩
    have hb : Wb.heap[W.heap.size]? = some (.cells #[c0, c1, c2, c3] 31 (0, 0)) := by rw [← hWb]; exact heap_alloc_new W _
    have := Blk.cell (t := 31) hb j
    rw [Nat.zero_add, this]
    simp
  cases hr : Wp.pItem vf i 1 4096 [] with
  | none =>
    have HC := Lib.hid (print_no vf i hI Wb W.heap.size hsz hp hr)
    clear hI hp hi hr
    have HS := Lib.hid hsz
    clear hsz
    go_enter Tryd.func5, Tryd.ntmps5
    go_wp2_with (go_at_call 8; (refine (HC.out).mono ?_); rintro e W2 ⟨rfl, b2⟩)
    go_ret2
    exact ⟨hbW.trans (b2.mono (by have := HS.out; omega)), rfl⟩
  | some r =>
    obtain ⟨l2, bs⟩ := r
    have HC := Lib.hid (print_yes vf i hI Wb W.heap.size hsz hp l2 bs hr)
    clear hI hp hi hr
    have HS := Lib.hid hsz
    clear hsz
    go_enter Tryd.func5, Tryd.ntmps5
    go_wp2_with (go_at_call 8; (refine (HC.out).mono ?_); rintro e W2 ⟨rfl, b2, A, c, hv, hb, hrb⟩)
    go_ret2
    exact ⟨hbW.trans (b2.mono (by have := HS.out; omega)), A, c, rfl, hrb⟩
end Go.Proofs.YtonkkojankmhbaaDoor
