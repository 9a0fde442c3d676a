import Derived.Test.YtonkkojankmhbaaDoorArr
namespace Go.Proofs.YtonkkojankmhbaaDoor
open Go.RowKit
open Wp (It)

theorem below_drewN (w : World) (n : Nat) : Below w.heap.size w (w.drewN n) := ⟨rfl, rfl, rfl, Nat.le_refl _, fun _ _ => rfl⟩
theorem WS.drewN {W : World} {base bw : Nat} {left : Int} {v : Value} {bs : List UInt8} (h : WS W base bw left v bs) (n : Nat) : WS (W.drewN n) base bw left v bs := ⟨h.blk, h.own, h.hb⟩
theorem compare_at (A A2 : Option Addr) (l l2 : List UInt8) (c n2 c2 : Nat) (hn : n2 = l2.length) (w : World) (h : RB w A l) (h2 : RB w A2 l2) :
    Calls Tryd.prog 26 #[.slice A l.length c, .slice A2 n2 c2] w fun e w' => e = .returned (.int .i64 (Lib.compareBytes l l2)) ∧ w = w' := by
  subst hn; exact compare_any A A2 l l2 c c2 w h h2
theorem own_form {W : World} {base n : Nat} {e : TypeId} {v : Value} {xs : List Value} (h : W.ownsRow base e 1 v n xs) (hn : 0 < n) : ∃ g c, v = .slice (some ⟨g, 0, none⟩) n c ∧ n ≤ c ∧ c ≤ maxLen ∧ g < W.heap.size := by
  rcases h.2 with ⟨rfl, rfl⟩ | ⟨g, cap, cur, rfl, _, hh, h1, h2, _⟩
  · omega
  · exact ⟨g, cap, rfl, h1, h2, (Array.getElem?_eq_some_iff.1 hh).1⟩
theorem Kept.nil (W : World) (bw n : Nat) (v : Value) (A : Option Addr) : Kept W bw v n A [] := fun h => absurd rfl h
theorem Kept.tail {W : World} {base bw g c a : Nat} {left : Int} {bs s : List UInt8} (h : WS W base bw left (.slice (some ⟨g, 0, none⟩) (bs ++ s).length c) (bs ++ s)) (ha : bs.length = a) :
    Kept W bw (.slice (some ⟨g, 0, none⟩) (bs ++ s).length c) (bs ++ s).length (some ⟨g, a, none⟩) s := by
  intro _
  subst ha
  have hb := own_not_bw h.blk h.own
  refine ⟨g, bs.length, rfl, (own_lt h.own rfl).2, fun e => hb (by rw [e]; rfl), fun _ => by simp, fun j hj => ?_⟩
  have := own_cell h.own (g := g) rfl (j := bs.length + j) (by simp; omega)
  rw [this]
  simp [hj]
set_option maxRecDepth 100000 in
set_option maxHeartbeats 8000000 in
theorem list_map (vf : List UInt8 → Bool) (base bw g o B : Nat) (W : World) (left : Int) (deep : Nat) (v : Value) (bs : List UInt8) (hw : WS W base bw left v bs) (hl0 : 0 ≤ left) (hl2 : left ≤ 4096) (hd : deep ≤ 16) (hB : B ≤ base) (hs : base ≤ W.heap.size) (hbs : bs.length ≤ 65536 + 9 * deep)
    (n : Nat) (d : List UInt8) (l : List It) (hp : PtrIt W B (.mk 5 n d l) g o) (ih : ∀ i ∈ l, ItemOK vf i) :
    Calls Tryd.prog 18 #[.pointer (some ⟨bw, 0, none⟩), .pointer (some ⟨g, o, none⟩), .int .i64 deep] W (ItemPost W base bw v bs (Wp.pList vf true 0 l (deep + 1) left (bs ++ Wp.headB 5 (l.length / 2)) [])) := by
  obtain ⟨A, c, A2, c2, cells, ic⟩ := hp.cells
  have g0 := ic.f0
  have g3 := ic.f3
  have hlb := ic.lb
  obtain ⟨m, hm⟩ : ∃ m, l.length / 2 = m := ⟨_, rfl⟩
  have hwu : IntKind.u64.wrap ((l.length : Int) / 2) = (m : Int) := by have h := u64_len m (by omega); rw [← h, ← hm]; congr 1
  have hm8 : m ≤ 1048576 := by omega
  rw [hm]
  clear hm
  have HI := Lib.hid ih
  clear ih
  obtain ⟨R, hR⟩ : ∃ R, Wp.pList vf true 0 l (deep + 1) left (bs ++ Wp.headB 5 m) [] = R := ⟨_, rfl⟩
  rw [hR]
  have HR := Lib.hid hR
  clear hR
  go_enter Tryd.func18, Tryd.ntmps18
  go_wp2_with (go_at_call 17; (with_reducible refine (head_at 5 5 rfl base bw m _ _ _ _ hw hs (by omega) (by omega) (by omega)).mono ?_); rintro e W1 ⟨rfl, v1, h1, a1⟩; have hb1 := a1.below hw.own hw.hb hs; have ic1 := ic.below (hb1.mono hB); have g31 := ic1.f3)
  have hlen1 : (bs ++ Wp.headB 5 m).length ≤ 65536 + 9 * (deep + 1) := by
    have := Wp.headB_length 5 m
    simp only [List.length_append]; omega
  have hle1 : bs.length ≤ (bs ++ Wp.headB 5 m).length := by simp
  have HR' := HR.out
  clear HR
  generalize bs ++ Wp.headB 5 m = bs0 at *
  have HR := Lib.hid HR'
  clear HR'
  go_loopw [8, 38] (fun s8 s38 wr => ∃ (q : Nat) (left1 : Int) (vq : Value) (bsq : List UInt8) (AL : Option Addr) (cL : Nat) (lastB : List UInt8), q ≤ l.length ∧ s38 = .int .i64 q ∧ s8 = .slice AL lastB.length cL ∧ Kept wr bw vq bsq.length AL lastB ∧ WS wr base bw left1 vq bsq ∧ Adv W bw v bs.length wr vq ∧ bs.length ≤ bsq.length ∧ 0 ≤ left1 ∧ left1 ≤ 4096 ∧ bsq.length ≤ 65536 + 9 * (deep + 1) ∧
      Wp.pList vf true q (l.drop q) (deep + 1) left1 bsq lastB = R)
    (fun _ s _ => l.length - (intOf s).toNat)
  case atStart => exact ⟨0, left, v1, bs0, none, 0, [], Nat.zero_le _, rfl, rfl, Kept.nil _ _ _ _ _, h1, a1, hle1, hl0, hl2, hlen1, HR.out⟩
  case round =>
    obtain ⟨q, left1, vq, bsq, AL, cL, lastB, hq, rfl, rfl, hkq, hwq, haq, hleq, hq0, hq1, hqb, hqR⟩ := hrel
    have HQ := Lib.hid hqR
    clear hqR
    have hbq := haq.below hw.own hw.hb hs
    have icq := ic.below (hbq.mono hB)
    have g3q := icq.f3
    have hsq : base ≤ wr.heap.size := Nat.le_trans hs hbq.size
    obtain ⟨Aq, cq, rfl⟩ := own_slice hwq.own
    have hcq : wr.cell? ⟨bw, 1, none⟩ = some (.slice Aq bsq.length cq) := Blk.cell (t := 41) hwq.blk 1
    by_cases hlt : q < l.length
    · obtain ⟨g2, o2, rfl, hpq⟩ := icq.nth q hlt
      have hdrop : l.drop q = l[q] :: l.drop (q + 1) := List.drop_eq_getElem_cons hlt
      cases hr : Wp.pItem vf l[q] (deep + 1) left1 bsq with
      | none =>
        have hRn : R = none := by rw [← HQ.out, hdrop]; simp [Wp.pList, hr]
        have HRN := Lib.hid hRn
        have HC := Lib.hid (HI.out l[q] (List.getElem_mem hlt) base bw g2 (o2 + q * 4) B wr left1 (deep + 1) _ bsq hwq hq0 hq1 (by omega) hB hsq hqb hpq)
        rw [hr] at HC
        clear hRn hr hdrop
        go_wp2_with (go_at_call 10; (refine (HC.out).mono ?_); rintro e W2 ⟨rfl, v2, b2⟩)
        exact ⟨rfl, end_bad HRN.out (haq.trans b2 hleq hw.own (own_not_bw hw.blk hw.own))⟩
      | some r =>
        obtain ⟨left2, bs2⟩ := r
        have hbd := pItem_bounds hr
        obtain ⟨p0, p1, p2, s2, hs2, p3⟩ := hbd
        have HC := Lib.hid (HI.out l[q] (List.getElem_mem hlt) base bw g2 (o2 + q * 4) B wr left1 (deep + 1) _ bsq hwq hq0 hq1 (by omega) hB hsq hqb hpq)
        rw [hr] at HC
        have hle2 : bsq.length ≤ bs2.length := by rw [hs2]; simp
        have hlt2 : bsq.length < bs2.length := by rw [hs2]; have := List.length_pos_iff.2 p3; simp only [List.length_append]; omega
        have hls : s2.length + bsq.length = bs2.length := by rw [hs2]; simp [Nat.add_comm]
        have HLS := Lib.hid hls
        have HS2 := Lib.hid hs2
        have hdr : bs2.drop bsq.length = s2 := by rw [hs2]; simp
        clear hls hs2
        by_cases hodd : q % 2 = 1
        · have hRn : Wp.pList vf true (q + 1) (l.drop (q + 1)) (deep + 1) left2 bs2 lastB = R := by
            rw [← HQ.out, hdrop]; simp only [Wp.pList, hr]; rw [if_pos (by simp; omega)]
          have HRN := Lib.hid hRn
          have hoz : (0 : Int) < (q : Int) % 2 := by omega
          clear hRn hr hdrop hdr hodd
          go_wp2_with (go_at_call 10; (refine (HC.out).mono ?_); rintro e W2 ⟨rfl, v2, h2, a2⟩)
          go_roundw
          case rel => exact ⟨q + 1, left2, v2, bs2, AL, cL, lastB, by omega, by go_num, rfl, hkq.adv a2 hle2, h2, haq.trans a2 hleq hw.own (own_not_bw hw.blk hw.own), by omega, p0, by omega, by omega, HRN.out⟩
          case measure => simp [intOf]; omega
        · have hoz : ¬ (0 : Int) < (q : Int) % 2 := by omega
          have hgo : Wp.pList vf true q (l.drop q) (deep + 1) left1 bsq lastB = if (q == 0 || Wp.lexLt lastB s2) = true then Wp.pList vf true (q + 1) (l.drop (q + 1)) (deep + 1) left2 bs2 s2 else none := by
            rw [hdrop]; simp only [Wp.pList, hr]; rw [if_neg (by simp; omega), hdr]
          have HGO := Lib.hid hgo
          clear hgo hr hdrop hdr hodd
          go_upto_region 12 with (go_at_call 10; (refine (HC.out).mono ?_); rintro e W2 ⟨rfl, v2, h2, a2⟩)
          obtain ⟨g5, c5, rfl, hc5, hm5, hg5⟩ := own_form h2.own (by omega)
          have hcw : W2.cell? ⟨bw, 1, none⟩ = some (.slice (some ⟨g5, 0, none⟩) bs2.length c5) := Blk.cell (t := 41) h2.blk 1
          have hz1 : (bs2.length : Int) ≤ (c5 : Int) := by omega
          have hz2 : (bsq.length : Int) ≤ (bs2.length : Int) := by omega
          unfold maxLen at hm5
          have hT : Kept W2 bw (.slice (some ⟨g5, 0, none⟩) bs2.length c5) bs2.length (some ⟨g5, bsq.length, none⟩) s2 := by
            have e := HS2.out
            have h2c := h2
            rw [e] at h2c ⊢
            exact Kept.tail h2c rfl
          have hL : Kept W2 bw (.slice (some ⟨g5, 0, none⟩) bs2.length c5) bs2.length AL lastB := hkq.adv a2 hle2
          have ha2 := haq.trans a2 hleq hw.own (own_not_bw hw.blk hw.own)
          by_cases hq00 : q = 0
          · have hqb0 : ((q : Int) == 0) = true := by simp [hq00]
            have HRN : Hid (Wp.pList vf true (q + 1) (l.drop (q + 1)) (deep + 1) left2 bs2 s2 = R) := Lib.hid (by rw [← HQ.out, HGO.out, if_pos (by simp [hq00])])
            clear hq00
            go_quiet (fail)
            go_wp2_with (go_at_call 16; refine (must_yes _).mono ?_; rintro e w' ⟨rfl, rfl⟩)
            go_roundw
            case rel => exact ⟨q + 1, left2, _, bs2, _, _, s2, by omega, by go_num, by rw [show bs2.length - bsq.length = s2.length from by have := HLS.out; omega], hT, h2.drewN nq, ha2.then_below hw.own (below_drewN _ nq), by omega, p0, by omega, by omega, HRN.out⟩
            case measure => simp [intOf]; omega
          · have hqb0 : ((q : Int) == 0) = false := by simp; omega
            have hqb : (q == 0) = false := by simp [hq00]
            clear hq00
            cases hlx : Wp.lexLt lastB s2 with
            | true =>
              have hcm : decide (Lib.compareBytes lastB s2 < 0) = true := by rw [compare_lex]; exact hlx
              have HRN : Hid (Wp.pList vf true (q + 1) (l.drop (q + 1)) (deep + 1) left2 bs2 s2 = R) := Lib.hid (by rw [← HQ.out, HGO.out, hqb, hlx]; rfl)
              clear hlx hqb
              go_quiet (fail)
              go_wp2_with (first | (go_at_call 16; refine (must_yes _).mono ?_; rintro e w' ⟨rfl, rfl⟩) | (go_at_call 26; refine (compare_at AL _ lastB s2 cL (bs2.length - bsq.length) _ (by have := HLS.out; omega) (W2.drewN nq) hL.rb hT.rb).mono ?_; rintro e w' ⟨rfl, rfl⟩))
              go_roundw
              case rel => exact ⟨q + 1, left2, _, bs2, _, _, s2, by omega, by go_num, by rw [show bs2.length - bsq.length = s2.length from by have := HLS.out; omega], hT, h2.drewN nq, ha2.then_below hw.own (below_drewN _ nq), by omega, p0, by omega, by omega, HRN.out⟩
              case measure => simp [intOf]; omega
            | false =>
              have hcm : decide (Lib.compareBytes lastB s2 < 0) = false := by rw [compare_lex]; exact hlx
              have HRN : Hid (R = none) := Lib.hid (by rw [← HQ.out, HGO.out, hqb, hlx]; rfl)
              clear hlx hqb
              go_quiet (fail)
              go_wp2_with (first | (go_at_call 16; refine (must_no _).mono ?_; rintro e w' ⟨rfl, rfl⟩) | (go_at_call 26; refine (compare_at AL _ lastB s2 cL (bs2.length - bsq.length) _ (by have := HLS.out; omega) (W2.drewN nq) hL.rb hT.rb).mono ?_; rintro e w' ⟨rfl, rfl⟩))
              exact ⟨rfl, end_bad HRN.out (ha2.then_below hw.own (below_drewN _ nq))⟩
    · have hRn : R = some (left1, bsq) := by
        rw [← HQ.out, List.drop_of_length_le (by omega)]; simp [Wp.pList]
      have HRN := Lib.hid hRn
      clear hRn
      go_wp2
      go_end0
      exact end_good HRN.out hwq haq
end Go.Proofs.YtonkkojankmhbaaDoor
