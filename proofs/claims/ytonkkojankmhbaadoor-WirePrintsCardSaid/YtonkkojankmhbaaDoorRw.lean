import Derived.Test.YtonkkojankmhbaaDoorRwA
namespace Go.Proofs.YtonkkojankmhbaaDoor
open Go.RowKit
open Wp (It)

theorem lexLt_bytes : ∀ (a b : List UInt8), Op.bytesLess a b = Wp.lexLt a b := by
  intro a b
  induction a generalizing b with
  | nil => cases b <;> simp [Op.bytesLess, Wp.lexLt]
  | cons x r ih => cases b with
    | nil => simp [Op.bytesLess, Wp.lexLt]
    | cons y t => simp [Op.bytesLess, Wp.lexLt, ih]
theorem lexLe : ∀ (a b : List UInt8), (Op.bytesLess a b || a == b) = !Wp.lexLt b a := by
  intro a b
  induction a generalizing b with
  | nil => cases b <;> simp [Op.bytesLess, Wp.lexLt]
  | cons x r ih => cases b with
    | nil => simp [Op.bytesLess, Wp.lexLt]
    | cons y t =>
      have := ih t
      rcases Nat.lt_trichotomy x.toNat y.toNat with h | h | h
      · have h1 : x < y := h
        have h2 : ¬ y < x := by show ¬ y.toNat < x.toNat; omega
        have h3 : ¬ y = x := by rintro rfl; omega
        simp [Op.bytesLess, Wp.lexLt, h1, h2, h3]
      · have h3 : x = y := UInt8.toNat_inj.1 h
        subst h3
        have h1 : ¬ x < x := by show ¬ x.toNat < x.toNat; omega
        simp only [Op.bytesLess, Wp.lexLt, h1, decide_false, Bool.false_or, beq_self_eq_true, Bool.true_and]
        rw [← this]
        simp
      · have h1 : y < x := h
        have h2 : ¬ x < y := by show ¬ x.toNat < y.toNat; omega
        have h3 : ¬ x = y := by rintro rfl; omega
        simp [Op.bytesLess, Wp.lexLt, h1, h2, h3]
theorem leq_S (a b : List UInt8) (r : Bool) (hr : (!Wp.lexLt b a) = r) (W : World) : (binOp .leq 9 (strV a) (strV b)).run Tryd.prog W = .ok (.bool r) W := by
  subst hr
  rw [← lexLe]
  have := Tryd.underlying9
  simp [strV, binOp_string_leq]

set_option maxRecDepth 100000 in
set_option maxHeartbeats 8000000 in
theorem rw_list (k : Int) (n : Nat) (d : List UInt8) (l : List It) (hk : 4 ≤ k ∧ k ≤ 6) (ih : ∀ i ∈ l, RwOK i) (c0 c1 c2 c3 : Value) (W : World) (B : Nat) (hB : B ≤ W.heap.size) (hi : ItAt W B (.mk k n d l) [c0, c1, c2, c3]) :
    Calls Tryd.prog 12 #[.agg #[c0, c1, c2, c3]] W (RwPost W (Wp.rWriteL (k == 5) 0 l (Wp.headB k.toNat (if k == 5 then l.length / 2 else l.length)) [])) := by
  obtain ⟨Wb, A, c, A2, c2', cells, hWb, rfl, rfl, rfl, rfl, hbW, hsz, ic⟩ := boxed W B hB k n d l c0 c1 c2 c3 hi
  have g0 := ic.f0
  have g3 := ic.f3
  have hlb := ic.lb
  obtain ⟨cn, hcn⟩ : ∃ cn, (if k == 5 then l.length / 2 else l.length) = cn := ⟨_, rfl⟩
  have hcb : cn ≤ 1048576 := by rw [← hcn]; split <;> omega
  have HC := fun w => rhead_at k k.toNat cn cn (by omega) rfl w (by omega) (by omega)
  have hlen := headB_len k.toNat cn
  rw [hcn]
  generalize Wp.headB k.toNat cn = hb at *
  obtain ⟨R, hR⟩ : ∃ R, Wp.rWriteL (k == 5) 0 l hb [] = R := ⟨_, rfl⟩
  rw [hR]
  have HR := Lib.hid hR
  have HC := Lib.hid HC
  have HS := Lib.hid hsz
  have HI := Lib.hid ih
  have HN := Lib.hid hcn
  clear hi hsz hR ih hcn
  have hwu : IntKind.u64.wrap (cn : Int) = (cn : Int) := u64_len _ (by omega)
  rcases (show k = 5 ∨ k = 4 ∨ k = 6 by omega) with rfl | hk
  · have hc5 : l.length / 2 = cn := by rw [← HN.out]; rfl
    clear hk
    have hc5z : (l.length : Int) / 2 = (cn : Int) := by omega
    go_enter Tryd.func12, Tryd.ntmps12
    go_wp2_with (go_at_call 20; (refine (HC.out _).mono ?_); rintro e W2 ⟨rfl, b2⟩)
    have hb2 : Below Wb.heap.size Wb W2 := b2
    have HR' := HR.out
    clear HR
    go_loopw [6, 7, 8] (fun s6 s7 s8 wr => ∃ (q : Nat) (out last : List UInt8), q ≤ l.length ∧ s6 = strV out ∧ s7 = strV last ∧ s8 = .int .i64 q ∧ Below Wb.heap.size Wb wr ∧ out.length ≤ 65536 ∧
      Wp.rWriteL true q (l.drop q) out last = R)
    (fun _ _ s _ => l.length - (intOf s).toNat)
    case atStart => exact ⟨0, hb, [], Nat.zero_le _, rfl, rfl, rfl, hb2, by omega, HR'⟩
    case round =>
      clear HR'
      obtain ⟨q, out, last, hq, rfl, rfl, rfl, hbq, hol, hqR⟩ := hrel
      have HQ := Lib.hid hqR
      clear hqR
      have icq := ic.below hbq
      have g0q : wr.cell? ⟨W.heap.size, 0, none⟩ = _ := icq.f0
      have g3q : wr.cell? ⟨W.heap.size, 3, none⟩ = _ := icq.f3
      by_cases hlt : q < l.length
      · obtain ⟨g2, o2, rfl, hpq⟩ := icq.nth q hlt
        have hdrop : l.drop q = l[q] :: l.drop (q + 1) := List.drop_eq_getElem_cons hlt
        have hmem := List.getElem_mem hlt
        generalize hiq : l[q] = iq at *
        obtain ⟨hg2, cs, hit, hcs⟩ := hpq
        obtain ⟨x0, x1, x2, x3, rfl⟩ : ∃ x0 x1 x2 x3, cs = [x0, x1, x2, x3] := by
          obtain ⟨k', n', d', l'⟩ := iq
          simp only [ItAt] at hit
          obtain ⟨_, _, _, _, _, e, _⟩ := hit
          exact ⟨_, _, _, _, e⟩
        have y0 : wr.cell? ⟨g2, o2 + q * 4, none⟩ = some x0 := hcs 0 (by omega)
        have y1 : wr.cell? ⟨g2, o2 + q * 4 + 1, none⟩ = some x1 := hcs 1 (by omega)
        have y2 : wr.cell? ⟨g2, o2 + q * 4 + 2, none⟩ = some x2 := hcs 2 (by omega)
        have y3 : wr.cell? ⟨g2, o2 + q * 4 + 3, none⟩ = some x3 := hcs 3 (by omega)
        have HC2 := HI.out iq hmem x0 x1 x2 x3 wr Wb.heap.size hbq.size hit
        cases hw : Wp.rWrite iq with
        | none =>
          rw [hw] at HC2
          have HC2 := Lib.hid HC2
          have HRN : R = none := by rw [← HQ.out, hdrop]; simp [Wp.rWriteL, hw]
          have HRN := Lib.hid HRN
          clear hit hcs hw hdrop hmem hiq
          go_wp2_with (go_at_call 12; (refine (HC2.out).mono ?_); rintro e W3 ⟨b3, s3, rfl⟩)
          go_ret2
          exact rwp_none (s := []) HRN.out (hbW.trans ((hbq.trans (b3.mono hbq.size)).mono (by have := HS.out; omega)))
        | some t =>
          rw [hw] at HC2
          have HC2 := Lib.hid HC2
          have htl := rWrite_le iq t hw
          obtain ⟨N1, hN1⟩ : ∃ N1, out.length = N1 := ⟨_, rfl⟩
          obtain ⟨N2, hN2⟩ : ∃ N2, t.length = N2 := ⟨_, rfl⟩
          have hl1 := len_S out N1 hN1
          have hl2 := len_S t N2 hN2
          by_cases hbig : N1 + N2 > 65536
          · have HRN : R = none := by rw [← HQ.out, hdrop]; simp only [Wp.rWriteL, hw]; rw [if_pos (by omega)]
            have HRN := Lib.hid HRN
            have hbz : (65536 : Int) < (N1 : Int) + (N2 : Int) := by omega
            have hnb1 : N1 ≤ 65536 := by omega
            have hnb2 : N2 ≤ 65536 := by omega
            clear hit hcs hw hdrop hmem hiq hN1 hN2
            go_wp2_with (go_at_call 12; (refine (HC2.out).mono ?_); rintro e W3 ⟨b3, rfl⟩)
            go_ret2
            exact rwp_none (s := []) HRN.out (hbW.trans ((hbq.trans (b3.mono hbq.size)).mono (by have := HS.out; omega)))
          · have hbz : ¬ (65536 : Int) < (N1 : Int) + (N2 : Int) := by omega
            have hnb1 : N1 ≤ 65536 := by omega
            have hnb2 : N2 ≤ 65536 := by omega
            have hadd := run_addS out t (by omega)
            have HOL := Lib.hid (show (out ++ t).length ≤ 65536 by rw [List.length_append]; omega)
            have hoadd : Wp.rWriteL true q (iq :: l.drop (q + 1)) out last = if (true && q % 2 == 0) = true then (if (decide (q > 0) && !Wp.lexLt last t) = true then none else Wp.rWriteL true (q + 1) (l.drop (q + 1)) (out ++ t) t) else Wp.rWriteL true (q + 1) (l.drop (q + 1)) (out ++ t) last := by
              simp only [Wp.rWriteL, hw]; rw [if_neg (by omega)]
            have hR2 := HQ.out
            rw [hdrop, hoadd] at hR2
            have HR2 := Lib.hid hR2
            clear hit hcs hw hdrop hmem hiq hN1 hN2 hoadd hR2
            have HARM := Lib.hid (show ∀ W3, Below wr.heap.size wr W3 → ItCells W3 Wb.heap.size 5 n d l W.heap.size 0 A c (some ⟨g2, o2, none⟩) c2' cells from fun W3 b3 => ic.below (hbq.trans (b3.mono hbq.size)))
            have HARMT := Lib.hid (show ∀ W3, Below wr.heap.size wr W3 → Below Wb.heap.size Wb W3 from fun W3 b3 => hbq.trans (b3.mono hbq.size))
            by_cases hodd : q % 2 = 1
            · have hoz : ¬ (q : Int) % 2 = 0 := by omega
              have hozb : ((q : Int) % 2 == 0) = false := by simp; omega
              have HRN : Hid (Wp.rWriteL true (q + 1) (l.drop (q + 1)) (out ++ t) last = R) := Lib.hid (by rw [← HR2.out, if_neg (by simp; omega)])
              clear hodd
              go_wp2_with (go_at_call 12; (refine (HC2.out).mono ?_); rintro e W3 ⟨b3, rfl⟩; have icw := HARM.out _ b3; have g0w : W3.cell? ⟨W.heap.size, 0, none⟩ = some (.int .i64 5) := icw.f0; have g3w : W3.cell? ⟨W.heap.size, 3, none⟩ = some (.slice (some ⟨g2, o2, none⟩) l.length c2') := icw.f3)
              go_roundw
              case rel => exact ⟨q + 1, out ++ t, last, by omega, rfl, rfl, by go_num, HARMT.out _ b3, HOL.out, HRN.out⟩
              case measure => simp [intOf]; omega
            · have hoz : (q : Int) % 2 = 0 := by omega
              have hozb : ((q : Int) % 2 == 0) = true := by simp; omega
              have HEV := Lib.hid hoz
              clear hoz
              by_cases hq0 : q = 0
              · subst hq0
                simp only [Nat.zero_mul, Nat.add_zero] at y0 y1 y2 y3
                have HRN : Hid (Wp.rWriteL true (0 + 1) (l.drop (0 + 1)) (out ++ t) t = R) := Lib.hid (by rw [← HR2.out]; simp)
                clear hodd
                go_wp2_with (go_at_call 12; (refine (HC2.out).mono ?_); rintro e W3 ⟨b3, rfl⟩; have icw := HARM.out _ b3; have g0w : W3.cell? ⟨W.heap.size, 0, none⟩ = some (.int .i64 5) := icw.f0; have g3w : W3.cell? ⟨W.heap.size, 3, none⟩ = some (.slice (some ⟨g2, o2, none⟩) l.length c2') := icw.f3)
                go_roundw
                case rel => exact ⟨0 + 1, out ++ t, t, by omega, rfl, rfl, by first | rfl | go_num, HARMT.out _ b3, HOL.out, HRN.out⟩
                case measure => simp [intOf]; omega
              · have hqz : (0 : Int) < (q : Int) := by omega
                cases hlx : Wp.lexLt last t with
                | true =>
                  have hleq := leq_S t last false (by rw [hlx]; rfl)
                  have HRN : Hid (Wp.rWriteL true (q + 1) (l.drop (q + 1)) (out ++ t) t = R) := Lib.hid (by rw [← HR2.out, if_pos (by simp; omega), if_neg (by simp [hlx])])
                  clear hodd hq0 hlx
                  go_wp2_with (go_at_call 12; (refine (HC2.out).mono ?_); rintro e W3 ⟨b3, rfl⟩; have icw := HARM.out _ b3; have g0w : W3.cell? ⟨W.heap.size, 0, none⟩ = some (.int .i64 5) := icw.f0; have g3w : W3.cell? ⟨W.heap.size, 3, none⟩ = some (.slice (some ⟨g2, o2, none⟩) l.length c2') := icw.f3)
                  go_roundw
                  case rel => exact ⟨q + 1, out ++ t, t, by omega, rfl, rfl, by go_num, HARMT.out _ b3, HOL.out, HRN.out⟩
                  case measure => simp [intOf]; omega
                | false =>
                  have hleq := leq_S t last true (by rw [hlx]; rfl)
                  have HRN : Hid (R = none) := Lib.hid (by rw [← HR2.out, if_pos (by simp; omega), if_pos (by simp [hlx]; omega)])
                  clear hodd hq0 hlx
                  go_wp2_with (go_at_call 12; (refine (HC2.out).mono ?_); rintro e W3 ⟨b3, rfl⟩; have icw := HARM.out _ b3; have g0w : W3.cell? ⟨W.heap.size, 0, none⟩ = some (.int .i64 5) := icw.f0; have g3w : W3.cell? ⟨W.heap.size, 3, none⟩ = some (.slice (some ⟨g2, o2, none⟩) l.length c2') := icw.f3)
                  go_ret2
                  exact rwp_none (s := []) HRN.out (hbW.trans ((HARMT.out _ b3).mono (by have := HS.out; omega)))
      · have hRn : R = some out := by
          rw [← HQ.out, List.drop_of_length_le (by omega)]; simp [Wp.rWriteL]
        have HRN := Lib.hid hRn
        clear hRn
        go_wp2
        go_ret2
        exact rwp_some HRN.out (hbW.trans (hbq.mono (by have := HS.out; omega)))
  · have hk5 : (k == 5) = false := by rcases hk with rfl | rfl <;> rfl
    have hk7 : (k == 7) = false := by rcases hk with rfl | rfl <;> rfl
    have hk2 : ¬ k < 2 := by omega
    have hk4 : ¬ k < 4 := by omega
    have hcl : l.length = cn := by rw [← HN.out, hk5]; rfl
    subst hcl
    clear hk
    go_enter Tryd.func12, Tryd.ntmps12
    go_wp2_with (go_at_call 20; (refine (HC.out _).mono ?_); rintro e W2 ⟨rfl, b2⟩)
    have hb2 : Below Wb.heap.size Wb W2 := b2
    have HR' := HR.out
    rw [hk5] at HR'
    clear HR
    go_loopw [6, 7, 8] (fun s6 s7 s8 wr => ∃ (q : Nat) (out last : List UInt8), q ≤ l.length ∧ s6 = strV out ∧ s7 = strV last ∧ s8 = .int .i64 q ∧ Below Wb.heap.size Wb wr ∧ out.length ≤ 65536 ∧
      Wp.rWriteL false q (l.drop q) out last = R)
    (fun _ _ s _ => l.length - (intOf s).toNat)
    case atStart => exact ⟨0, hb, [], Nat.zero_le _, rfl, rfl, rfl, hb2, by omega, HR'⟩
    case round =>
      clear HR'
      obtain ⟨q, out, last, hq, rfl, rfl, rfl, hbq, hol, hqR⟩ := hrel
      have HQ := Lib.hid hqR
      clear hqR
      have icq := ic.below hbq
      have g0q : wr.cell? ⟨W.heap.size, 0, none⟩ = _ := icq.f0
      have g3q : wr.cell? ⟨W.heap.size, 3, none⟩ = _ := icq.f3
      by_cases hlt : q < l.length
      · obtain ⟨g2, o2, rfl, hpq⟩ := icq.nth q hlt
        have hdrop : l.drop q = l[q] :: l.drop (q + 1) := List.drop_eq_getElem_cons hlt
        have hmem := List.getElem_mem hlt
        generalize hiq : l[q] = iq at *
        obtain ⟨hg2, cs, hit, hcs⟩ := hpq
        obtain ⟨x0, x1, x2, x3, rfl⟩ : ∃ x0 x1 x2 x3, cs = [x0, x1, x2, x3] := by
          obtain ⟨k', n', d', l'⟩ := iq
          simp only [ItAt] at hit
          obtain ⟨_, _, _, _, _, e, _⟩ := hit
          exact ⟨_, _, _, _, e⟩
        have y0 : wr.cell? ⟨g2, o2 + q * 4, none⟩ = some x0 := hcs 0 (by omega)
        have y1 : wr.cell? ⟨g2, o2 + q * 4 + 1, none⟩ = some x1 := hcs 1 (by omega)
        have y2 : wr.cell? ⟨g2, o2 + q * 4 + 2, none⟩ = some x2 := hcs 2 (by omega)
        have y3 : wr.cell? ⟨g2, o2 + q * 4 + 3, none⟩ = some x3 := hcs 3 (by omega)
        have HC2 := HI.out iq hmem x0 x1 x2 x3 wr Wb.heap.size hbq.size hit
        cases hw : Wp.rWrite iq with
        | none =>
          rw [hw] at HC2
          have HC2 := Lib.hid HC2
          have HRN : R = none := by rw [← HQ.out, hdrop]; simp [Wp.rWriteL, hw]
          have HRN := Lib.hid HRN
          clear hit hcs hw hdrop hmem hiq
          go_wp2_with (go_at_call 12; (refine (HC2.out).mono ?_); rintro e W3 ⟨b3, s3, rfl⟩)
          go_ret2
          exact rwp_none (s := []) HRN.out (hbW.trans ((hbq.trans (b3.mono hbq.size)).mono (by have := HS.out; omega)))
        | some t =>
          rw [hw] at HC2
          have HC2 := Lib.hid HC2
          have htl := rWrite_le iq t hw
          obtain ⟨N1, hN1⟩ : ∃ N1, out.length = N1 := ⟨_, rfl⟩
          obtain ⟨N2, hN2⟩ : ∃ N2, t.length = N2 := ⟨_, rfl⟩
          have hl1 := len_S out N1 hN1
          have hl2 := len_S t N2 hN2
          by_cases hbig : N1 + N2 > 65536
          · have HRN : R = none := by rw [← HQ.out, hdrop]; simp only [Wp.rWriteL, hw]; rw [if_pos (by omega)]
            have HRN := Lib.hid HRN
            have hbz : (65536 : Int) < (N1 : Int) + (N2 : Int) := by omega
            have hnb1 : N1 ≤ 65536 := by omega
            have hnb2 : N2 ≤ 65536 := by omega
            clear hit hcs hw hdrop hmem hiq hN1 hN2
            go_wp2_with (go_at_call 12; (refine (HC2.out).mono ?_); rintro e W3 ⟨b3, rfl⟩)
            go_ret2
            exact rwp_none (s := []) HRN.out (hbW.trans ((hbq.trans (b3.mono hbq.size)).mono (by have := HS.out; omega)))
          · have hbz : ¬ (65536 : Int) < (N1 : Int) + (N2 : Int) := by omega
            have hnb1 : N1 ≤ 65536 := by omega
            have hnb2 : N2 ≤ 65536 := by omega
            have hadd := run_addS out t (by omega)
            have HOL := Lib.hid (show (out ++ t).length ≤ 65536 by rw [List.length_append]; omega)
            have hoadd : Wp.rWriteL false q (iq :: l.drop (q + 1)) out last = if (false && q % 2 == 0) = true then (if (decide (q > 0) && !Wp.lexLt last t) = true then none else Wp.rWriteL false (q + 1) (l.drop (q + 1)) (out ++ t) t) else Wp.rWriteL false (q + 1) (l.drop (q + 1)) (out ++ t) last := by
              simp only [Wp.rWriteL, hw]; rw [if_neg (by omega)]
            have hR2 := HQ.out
            rw [hdrop, hoadd] at hR2
            have HR2 := Lib.hid hR2
            clear hit hcs hw hdrop hmem hiq hN1 hN2 hoadd hR2
            have HARM := Lib.hid (show ∀ W3, Below wr.heap.size wr W3 → ItCells W3 Wb.heap.size k n d l W.heap.size 0 A c (some ⟨g2, o2, none⟩) c2' cells from fun W3 b3 => ic.below (hbq.trans (b3.mono hbq.size)))
            have HARMT := Lib.hid (show ∀ W3, Below wr.heap.size wr W3 → Below Wb.heap.size Wb W3 from fun W3 b3 => hbq.trans (b3.mono hbq.size))
            have HRN : Hid (Wp.rWriteL false (q + 1) (l.drop (q + 1)) (out ++ t) last = R) := Lib.hid (by rw [← HR2.out, if_neg (by simp)])
            go_wp2_with (go_at_call 12; (refine (HC2.out).mono ?_); rintro e W3 ⟨b3, rfl⟩; have icw := HARM.out _ b3; have g0w : W3.cell? ⟨W.heap.size, 0, none⟩ = some (.int .i64 k) := icw.f0; have g3w : W3.cell? ⟨W.heap.size, 3, none⟩ = some (.slice (some ⟨g2, o2, none⟩) l.length c2') := icw.f3)
            go_roundw
            case rel => exact ⟨q + 1, out ++ t, last, by omega, rfl, rfl, by go_num, HARMT.out _ b3, HOL.out, HRN.out⟩
            case measure => simp [intOf]; omega
      · have hRn : R = some out := by
          rw [← HQ.out, List.drop_of_length_le (by omega)]; simp [Wp.rWriteL]
        have HRN := Lib.hid hRn
        clear hRn
        go_wp2
        go_ret2
        exact rwp_some HRN.out (hbW.trans (hbq.mono (by have := HS.out; omega)))
end Go.Proofs.YtonkkojankmhbaaDoor
