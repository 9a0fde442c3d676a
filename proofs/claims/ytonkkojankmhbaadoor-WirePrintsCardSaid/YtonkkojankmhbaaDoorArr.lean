import Derived.Test.YtonkkojankmhbaaDoorLs
namespace Go.Proofs.YtonkkojankmhbaaDoor
open Go.RowKit
open Wp (It)

theorem end_ret {W W' : World} {base bw : Nat} {v v' : Value} {bs bs' : List UInt8} {left' : Int} {r : Option (Int × List UInt8)} (h : r = some (left', bs')) (hw : WS W' base bw left' v' bs') (ha : Adv W bw v bs.length W' v') : ItemPost W base bw v bs r (.returned (.tuple #[])) W' := end_good h hw ha

set_option maxRecDepth 100000 in
set_option maxHeartbeats 8000000 in
theorem list_arr (vf : List UInt8 → Bool) (base bw g o B : Nat) (W : World) (left : Int) (deep : Nat) (v : Value) (bs : List UInt8) (hw : WS W base bw left v bs) (hl0 : 0 ≤ left) (hl2 : left ≤ 4096) (hd : deep ≤ 16) (hB : B ≤ base) (hs : base ≤ W.heap.size) (hbs : bs.length ≤ 65536 + 9 * deep)
    (n : Nat) (d : List UInt8) (l : List It) (hp : PtrIt W B (.mk 4 n d l) g o) (ih : ∀ i ∈ l, ItemOK vf i) :
    Calls Tryd.prog 18 #[.pointer (some ⟨bw, 0, none⟩), .pointer (some ⟨g, o, none⟩), .int .i64 deep] W (ItemPost W base bw v bs (Wp.pList vf false 0 l (deep + 1) left (bs ++ Wp.headB 4 l.length) [])) := by
  obtain ⟨A, c, A2, c2, cells, ic⟩ := hp.cells
  have g0 := ic.f0
  have g3 := ic.f3
  have hlb := ic.lb
  have hwu : IntKind.u64.wrap (l.length : Int) = (l.length : Int) := u64_len _ (by omega)
  have HI := Lib.hid ih
  clear ih
  obtain ⟨R, hR⟩ : ∃ R, Wp.pList vf false 0 l (deep + 1) left (bs ++ Wp.headB 4 l.length) [] = R := ⟨_, rfl⟩
  rw [hR]
  have HR := Lib.hid hR
  clear hR
  go_enter Tryd.func18, Tryd.ntmps18
  go_wp2_with (go_at_call 17; (with_reducible refine (head_at 4 4 rfl base bw l.length _ _ _ _ hw hs (by omega) (by omega) (by omega)).mono ?_); rintro e W1 ⟨rfl, v1, h1, a1⟩; have hb1 := a1.below hw.own hw.hb hs; have ic1 := ic.below (hb1.mono hB); have g31 := ic1.f3)
  have hlen1 : (bs ++ Wp.headB 4 l.length).length ≤ 65536 + 9 * (deep + 1) := by
    have := Wp.headB_length 4 l.length
    simp only [List.length_append]; omega
  have hle1 : bs.length ≤ (bs ++ Wp.headB 4 l.length).length := by simp
  have HR' := HR.out
  clear HR
  generalize bs ++ Wp.headB 4 l.length = bs0 at *
  have HR := Lib.hid HR'
  clear HR'
  go_loopw [8, 38] (fun s8 s38 wr => ∃ (q : Nat) (left1 : Int) (vq : Value) (bsq : List UInt8), q ≤ l.length ∧ s38 = .int .i64 q ∧ s8 = .slice none 0 0 ∧ WS wr base bw left1 vq bsq ∧ Adv W bw v bs.length wr vq ∧ bs.length ≤ bsq.length ∧ 0 ≤ left1 ∧ left1 ≤ 4096 ∧ bsq.length ≤ 65536 + 9 * (deep + 1) ∧
      Wp.pList vf false q (l.drop q) (deep + 1) left1 bsq [] = R)
    (fun _ s _ => l.length - (intOf s).toNat)
  case atStart => exact ⟨0, left, v1, bs0, Nat.zero_le _, rfl, rfl, h1, a1, hle1, hl0, hl2, hlen1, HR.out⟩
  case round =>
    obtain ⟨q, left1, vq, bsq, hq, rfl, rfl, hwq, haq, hleq, hq0, hq1, hqb, hqR⟩ := hrel
    have HQ := Lib.hid hqR
    clear hqR
    have hbq := haq.below hw.own hw.hb hs
    have icq := ic.below (hbq.mono hB)
    have g3q := icq.f3
    have hsq : base ≤ wr.heap.size := Nat.le_trans hs hbq.size
    obtain ⟨Aq, cq, rfl⟩ := own_slice hwq.own
    have hcq : wr.cell? ⟨bw, 1, none⟩ = some (.slice Aq bsq.length cq) := Blk.cell (t := 41) hwq.blk 1
    by_cases hlt : q < l.length
    · obtain ⟨g2, o2, rfl, hpq⟩ := icq.nth q hlt
      have hdrop : l.drop q = l[q] :: l.drop (q + 1) := List.drop_eq_getElem_cons hlt
      cases hr : Wp.pItem vf l[q] (deep + 1) left1 bsq with
      | none =>
        have hRn : R = none := by rw [← HQ.out, hdrop]; simp [Wp.pList, hr]
        have HRN := Lib.hid hRn
        have HC := Lib.hid (HI.out l[q] (List.getElem_mem hlt) base bw g2 (o2 + q * 4) B wr left1 (deep + 1) _ bsq hwq hq0 hq1 (by omega) hB hsq hqb hpq)
        rw [hr] at HC
        clear hRn hr hdrop
        go_wp2_with (go_at_call 10; (refine (HC.out).mono ?_); rintro e W2 ⟨rfl, v2, b2⟩)
        exact ⟨rfl, end_bad HRN.out (haq.trans b2 hleq hw.own (own_not_bw hw.blk hw.own))⟩
      | some r =>
        obtain ⟨left2, bs2⟩ := r
        have hbd := pItem_bounds hr
        obtain ⟨p0, p1, p2, s2, rfl, p3⟩ := hbd
        have hRn : Wp.pList vf false (q + 1) (l.drop (q + 1)) (deep + 1) left2 (bsq ++ s2) [] = R := by rw [← HQ.out, hdrop]; simp [Wp.pList, hr]
        have HRN := Lib.hid hRn
        have HC := Lib.hid (HI.out l[q] (List.getElem_mem hlt) base bw g2 (o2 + q * 4) B wr left1 (deep + 1) _ bsq hwq hq0 hq1 (by omega) hB hsq hqb hpq)
        rw [hr] at HC
        have hle2 : bsq.length ≤ (bsq ++ s2).length := by simp
        generalize bsq ++ s2 = bs2 at *
        clear hRn hr hdrop
        go_wp2_with (go_at_call 10; (refine (HC.out).mono ?_); rintro e W2 ⟨rfl, v2, h2, a2⟩)
        go_roundw
        case rel => exact ⟨q + 1, left2, v2, bs2, by omega, by go_num, rfl, h2, haq.trans a2 hleq hw.own (own_not_bw hw.blk hw.own), by omega, p0, by omega, by omega, HRN.out⟩
        case measure => simp [intOf]; omega
    · have hRn : R = some (left1, bsq) := by
        rw [← HQ.out, List.drop_of_length_le (by omega)]; simp [Wp.pList]
      have HRN := Lib.hid hRn
      clear hRn
      go_wp2
      go_end0
      exact end_good HRN.out hwq haq
end Go.Proofs.YtonkkojankmhbaaDoor
