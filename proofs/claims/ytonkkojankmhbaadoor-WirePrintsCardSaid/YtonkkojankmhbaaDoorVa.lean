/- unicode/utf8.Valid and word over a slice of bytes: the library's text, walked (after the guide's text for strings, turned to a slice). -/
import Derived.Test.YtonkkojankmhbaaDoorHead
import Derived.Lib.ValidAsc
import Derived.Lib.EndianBits
import Derived.Laws.BitsAllLaws
import Derived.Shelf.Unicode.DecodeSlow
import Derived.Shelf.Unicode.WordAny
import Derived.Deep.DeepMust
import Derived.Deep.CutBlock
import Derived.Deep.DeepCutAuto
import Derived.BigQuiet
import Derived.Deep.QuietTactic
set_option linter.unusedVariables false
namespace Go.Proofs.YtonkkojankmhbaaDoor
open Go.RowKit

/-- a slice that holds these bytes, below block B -/
def VB (w : World) (B : Nat) (A : Option Addr) (t : ByteArray) : Prop := 0 < t.size → ∃ g o, A = some ⟨g, o, none⟩ ∧ g < B ∧ ∀ j, j < t.size → w.cell? ⟨g, o + j, none⟩ = some (.int .u8 ((t.get! j).toNat : Int))
theorem VB.below {w w' : World} {B : Nat} {A : Option Addr} {t : ByteArray} (h : VB w B A t) (hb : Below B w w') : VB w' B A t := fun h0 => by
  obtain ⟨g, o, e, hg, hc⟩ := h h0
  exact ⟨g, o, e, hg, fun j hj => (hb.cell (p := ⟨g, o + j, none⟩) hg).trans (hc j hj)⟩
theorem ext_get (t : ByteArray) (k j : Nat) (h : k + j < t.size) : (t.extract k t.size).get! j = t.get! (k + j) := by
  rw [← Lib.getD_get!', ← Lib.getD_get!', Lib.ext_list, List.getD_eq_getElem?_getD, List.getD_eq_getElem?_getD, List.getElem?_drop]
theorem VB.cut {w : World} {B g o : Nat} {t : ByteArray} (hg : g < B) (hc : ∀ j, j < t.size → w.cell? ⟨g, o + j, none⟩ = some (.int .u8 ((t.get! j).toNat : Int))) (k o1 : Nat) (ho : o + k = o1) :
    VB w B (some ⟨g, o1, none⟩) (t.extract k t.size) := fun h0 => by
  subst ho
  refine ⟨g, o + k, rfl, hg, fun j hj => ?_⟩
  rw [Lib.ext_size] at hj
  rw [Nat.add_assoc, hc (k + j) (by omega), ext_get t k j (by omega)]

theorem byte_lt (x : UInt8) : x.toNat < 256 := x.toNat_lt

set_option maxHeartbeats 8000000 in
set_option maxRecDepth 100000 in
theorem word_any (g o : Nat) (t : ByteArray) (w : World) (hs : 8 ≤ t.size) (hc : ∀ j, j < t.size → w.cell? ⟨g, o + j, none⟩ = some (.int .u8 ((t.get! j).toNat : Int))) :
    Calls Tryd.prog 27 #[.slice (some ⟨g, o, none⟩) t.size t.size] w fun e w' => e = .returned (.int .u64 (Lib.leNat [t.get! 0, t.get! 1, t.get! 2, t.get! 3, t.get! 4, t.get! 5, t.get! 6, t.get! 7])) ∧ ∃ q, w' = w.drewN q := by
  obtain ⟨x0, hx0⟩ : ∃ x0, t.get! 0 = x0 := ⟨_, rfl⟩
  have c0 := hc 0 (by omega)
  have h0 : x0.toNat < 256 := byte_lt x0
  have q0 : (0 : Int) < (t.size : Int) := by omega
  have p0 : 0 < t.size := by omega
  obtain ⟨x1, hx1⟩ : ∃ x1, t.get! 1 = x1 := ⟨_, rfl⟩
  have c1 := hc 1 (by omega)
  have h1 : x1.toNat < 256 := byte_lt x1
  have q1 : (1 : Int) < (t.size : Int) := by omega
  have p1 : 1 < t.size := by omega
  obtain ⟨x2, hx2⟩ : ∃ x2, t.get! 2 = x2 := ⟨_, rfl⟩
  have c2 := hc 2 (by omega)
  have h2 : x2.toNat < 256 := byte_lt x2
  have q2 : (2 : Int) < (t.size : Int) := by omega
  have p2 : 2 < t.size := by omega
  obtain ⟨x3, hx3⟩ : ∃ x3, t.get! 3 = x3 := ⟨_, rfl⟩
  have c3 := hc 3 (by omega)
  have h3 : x3.toNat < 256 := byte_lt x3
  have q3 : (3 : Int) < (t.size : Int) := by omega
  have p3 : 3 < t.size := by omega
  obtain ⟨x4, hx4⟩ : ∃ x4, t.get! 4 = x4 := ⟨_, rfl⟩
  have c4 := hc 4 (by omega)
  have h4 : x4.toNat < 256 := byte_lt x4
  have q4 : (4 : Int) < (t.size : Int) := by omega
  have p4 : 4 < t.size := by omega
  obtain ⟨x5, hx5⟩ : ∃ x5, t.get! 5 = x5 := ⟨_, rfl⟩
  have c5 := hc 5 (by omega)
  have h5 : x5.toNat < 256 := byte_lt x5
  have q5 : (5 : Int) < (t.size : Int) := by omega
  have p5 : 5 < t.size := by omega
  obtain ⟨x6, hx6⟩ : ∃ x6, t.get! 6 = x6 := ⟨_, rfl⟩
  have c6 := hc 6 (by omega)
  have h6 : x6.toNat < 256 := byte_lt x6
  have q6 : (6 : Int) < (t.size : Int) := by omega
  have p6 : 6 < t.size := by omega
  obtain ⟨x7, hx7⟩ : ∃ x7, t.get! 7 = x7 := ⟨_, rfl⟩
  have c7 := hc 7 (by omega)
  have h7 : x7.toNat < 256 := byte_lt x7
  have q7 : (7 : Int) < (t.size : Int) := by omega
  have p7 : 7 < t.size := by omega
  rw [hx0, hx1, hx2, hx3, hx4, hx5, hx6, hx7]
  rw [hx0] at c0
  rw [hx1] at c1
  rw [hx2] at c2
  rw [hx3] at c3
  rw [hx4] at c4
  rw [hx5] at c5
  rw [hx6] at c6
  rw [hx7] at c7
  rw [Nat.add_zero] at c0
  have hv : ((Lib.leNat [x0, x1, x2, x3, x4, x5, x6, x7] : Nat) : Int) = (x0.toNat : Int) + (x1.toNat : Int) * 256 + (x2.toNat : Int) * 65536 + (x3.toNat : Int) * 16777216 + (x4.toNat : Int) * 4294967296 + (x5.toNat : Int) * 1099511627776 + (x6.toNat : Int) * 281474976710656 + (x7.toNat : Int) * 72057594037927936 := by
    simp only [Lib.leNat]
    push_cast
    omega
  have HV := Lib.hid hv
  clear hv hc hx0 hx1 hx2 hx3 hx4 hx5 hx6 hx7
  go_enter Tryd.func27, Tryd.ntmps27
  go_wp2
  go_quiet (fail)
  go_wp2
  go_ret
  refine ⟨?_, _, rfl⟩
  simp (disch := omega) only [u64_wrap_id, u64_or8, u64_or16, u64_or24, u64_or32, u64_or40, u64_or48, u64_or56]
  rw [HV.out]
  try rfl

theorem and7v : ∀ X : Fin 256, bits .and .u8 ((X.val : Nat) : Int) 7 = ((X.val % 8 : Nat) : Int) := by decide +kernel
theorem below_drewNv {B : Nat} {a w : World} (h : Below B a w) : ∀ q, Below B a (w.drewN q)
  | 0 => h
  | q + 1 => (below_drewNv h q).drew
theorem tail0 (t : ByteArray) (k : Nat) (h : t.size = k) (w : World) (B : Nat) (A : Option Addr) : VB w B A (t.extract k t.size) := fun h0 => by
  rw [Lib.ext_size] at h0; omega
set_option maxHeartbeats 16000000 in
set_option maxRecDepth 1000000 in
theorem valid_any (A : Option Addr) (s : ByteArray) (c : Nat) (B : Nat) (w : World) (hs : s.size ≤ 1048576) (hsc : s.size ≤ c) (hcm : c ≤ 9223372036854775807) (hB : B ≤ w.heap.size) (hA : VB w B A s) (hT : Lib.Utf8Tabs 0 1 w) :
    Calls Tryd.prog 19 #[.slice A s.size c] w fun e w' => e = .returned (.bool (Lib.validD s.data.toList)) ∧ Below w.heap.size w w' := by
  obtain ⟨ANS, hANS⟩ : ∃ ANS, Lib.validD s.data.toList = ANS := ⟨_, rfl⟩
  rw [hANS]
  have hscz : (s.size : Int) ≤ (c : Int) := by omega
  go_enter Tryd.func19, Tryd.ntmps19
  go_wp2
  go_loopg [0] (s.size + 1) (fun gk s0 wx => Below w.heap.size w wx ∧ ∃ (A : Option Addr) (t : ByteArray), s0 = .slice A t.size t.size ∧ VB wx B A t ∧ Lib.validD t.data.toList = ANS ∧ t.size < gk ∧ t.size ≤ 1048576)
  case atStart => exact ⟨Below.refl _ _, A, s, by simp, hA, hANS, by omega, hs⟩
  case round =>
    obtain ⟨hbw, A, t, rfl, hV, hv, hg, hts⟩ := hrel
    clear hANS hA
    have hTr := Utf8Tabs_below hT hbw
    by_cases h0 : 0 < t.size
    · obtain ⟨g, o, rfl, hgB, hc⟩ := hV h0
      have hV' := fun (wx : World) (hb : Below wr.heap.size wr wx) => fun j (hj : j < t.size) => (hb.cell (p := ⟨g, o + j, none⟩) (by have := hbw.size; show g < _; omega)).trans (hc j hj)
      have HVX := Lib.hid hV'
      clear hV'
      obtain ⟨g', rfl⟩ : ∃ g', gk = g' + 1 := ⟨gk - 1, by omega⟩
      have h0z : (0 : Int) < (t.size : Int) := by omega
      obtain ⟨x0, hx0⟩ : ∃ x0, t.get! 0 = x0 := ⟨_, rfl⟩
      have c0 := hc 0 h0
      rw [hx0, Nat.add_zero] at c0
      have hx0lt : x0.toNat < 256 := byte_lt x0
      by_cases hasc : x0.toNat < 128
      · as_aux_lemma =>
        have hascz : (x0.toNat : Int) < 128 := by omega
        have a1 : Lib.Asc t 1 := Lib.asc_one t h0 (by rw [hx0]; exact hasc)
        have v1 : Lib.validD (t.extract 1 t.size).data.toList = ANS := by rw [Lib.valid_skip t 1 a1]; exact hv
        have HC := Lib.hid hc
        clear hTr hT hv a1 hV hc
        by_cases ht1 : t.size = 1
        · have T0 := tail0 t 1 ht1
          have z1 : (t.extract 1 t.size).size = 0 := by rw [Lib.ext_size]; omega
          have HZ := Lib.hid z1
          have HV1 := Lib.hid v1
          clear z1 v1
          go_wp2
          go_roundg g'
          case measure => omega
          case rel => exact ⟨hbw, _, t.extract 1 t.size, by rw [HZ.out], T0 _ _ _, HV1.out, by have := HZ.out; omega, by have := HZ.out; omega⟩
        obtain ⟨o1, ho1⟩ : ∃ o1, o + 1 = o1 := ⟨_, rfl⟩
        have V1 : ∀ wx, Below wr.heap.size wr wx → VB wx B (some ⟨g, o1, none⟩) (t.extract 1 t.size) := fun wx hb => VB.cut hgB (HVX.out wx hb) 1 o1 ho1
        have z1 : t.size - 1 = (t.extract 1 t.size).size := (Lib.ext_size t 1).symm
        obtain ⟨t1, et1⟩ : ∃ t1, t.extract 1 t.size = t1 := ⟨_, rfl⟩
        rw [et1] at V1 z1 v1
        have zz1 : t1.size + 1 = t.size := by omega
        have zl1 : 0 < t1.size := by omega
        have HVX1 := Lib.hid V1
        have C1 : ∀ wx, Below wr.heap.size wr wx → ∀ j, j < t1.size → wx.cell? ⟨g, o1 + j, none⟩ = some (.int .u8 ((t1.get! j).toNat : Int)) := fun wx hb => by
          obtain ⟨g', o', e, _, h⟩ := V1 wx hb zl1
          cases e
          exact h
        have HC1 := Lib.hid C1
        have zi1 : ¬ (t.size = 1) := ht1
        clear et1 V1 C1
        have HZ1 := Lib.hid zz1
        clear zz1
        by_cases c8 : 8 < t1.size
        · have c8z : (8 : Int) < (t1.size : Int) := by omega
          obtain ⟨A1, hA1⟩ : ∃ A1, Lib.leNat [t1.get! 0, t1.get! 1, t1.get! 2, t1.get! 3, t1.get! 4, t1.get! 5, t1.get! 6, t1.get! 7] = A1 := ⟨_, rfl⟩
          have lA1 : A1 < 18446744073709551616 := hA1 ▸ Lib.word_lt t1
          have cW1 : ∀ W, Below wr.heap.size wr W → Calls Tryd.prog 27 #[.slice (some ⟨g, o1, none⟩) t1.size t1.size] W fun e w' => e = .returned (.int .u64 A1) ∧ ∃ q, w' = W.drewN q := fun W hb => by rw [← hA1]; exact word_any g o1 t1 W (by omega) (HC1.out W hb)
          have CW1 := Lib.hid cW1
          have kA1 := Lib.word_asc t1 (by omega)
          rw [hA1] at kA1
          have hand1 : bits .and .u64 (A1 : Int) 9259542123273814144 = ((A1 &&& 9259542123273814144 : Nat) : Int) := u64_and_nat A1 9259542123273814144 lA1 (by omega)
          obtain ⟨Z1, hZ1⟩ : ∃ Z1, A1 &&& 9259542123273814144 = Z1 := ⟨_, rfl⟩
          rw [hZ1] at hand1 kA1
          clear cW1 hA1 hZ1
          by_cases hz1 : Z1 = 0
          · as_aux_lemma =>
            have hz1b : ((Z1 : Int) == 0) = true := by simp [hz1]
            have a8 : Lib.Asc t1 8 := kA1.1 hz1
            obtain ⟨t2, ht2⟩ : ∃ t2, t1.extract 8 t1.size = t2 := ⟨_, rfl⟩
            have z2 : t1.size - 8 = t2.size := by rw [← ht2, Lib.ext_size]
            have v2 : Lib.validD t2.data.toList = ANS := by rw [← ht2, Lib.valid_skip t1 8 a8]; exact v1
            obtain ⟨o2, ho2⟩ : ∃ o2, o1 + 8 = o2 := ⟨_, rfl⟩
            have V2 : ∀ wx, Below wr.heap.size wr wx → VB wx B (some ⟨g, o2, none⟩) t2 := fun wx hb => by rw [← ht2]; exact VB.cut hgB (HC1.out wx hb) 8 o2 ho2
            have HVX2 := Lib.hid V2
            have zl2 : 0 < t2.size := by omega
            have zn2 : ¬ (t1.size = 8) := by omega
            have C2 : ∀ wx, Below wr.heap.size wr wx → ∀ j, j < t2.size → wx.cell? ⟨g, o2 + j, none⟩ = some (.int .u8 ((t2.get! j).toNat : Int)) := fun wx hb => by
              obtain ⟨g', o', e, _, h⟩ := V2 wx hb zl2
              cases e
              exact h
            have HC2 := Lib.hid C2
            have HA8 := Lib.hid a8
            have HV2 := Lib.hid v2
            have HZ2 := Lib.hid (show t2.size + 8 = t1.size by omega)
            clear kA1 a8 v1 ht2 V2 C2 v2 hz1
            go_wp2_with (go_at_call 27; go_must (refine (CW1.out _ (Below.refl _ _)).mono ?_; rintro e W1 ⟨rfl, q1, rfl⟩))
            have hb1 : Below w.heap.size w (wr.drewN q1) := below_drewNv hbw q1
            have hbr1 : Below wr.heap.size wr (wr.drewN q1) := below_drewNv (Below.refl _ _) q1
            generalize wr.drewN q1 = wq at hb1 hbr1 ⊢
            by_cases c16 : 16 < t2.size
            · as_aux_lemma =>
              have c16z : (16 : Int) < (t2.size : Int) := by omega
              have zn16 : ¬ (t2.size = 16) := by omega
              have zn8 : ¬ (t2.size = 8) := by omega
              have s8z : (8 : Int) ≤ (t2.size : Int) := by omega
              obtain ⟨t2b, ht2b⟩ : ∃ t2b, t2.extract 8 t2.size = t2b := ⟨_, rfl⟩
              have z2b : t2.size - 8 = t2b.size := by rw [← ht2b, Lib.ext_size]
              obtain ⟨o2b, ho2b⟩ : ∃ o2b, o2 + 8 = o2b := ⟨_, rfl⟩
              have V2b : ∀ wx, Below wr.heap.size wr wx → VB wx B (some ⟨g, o2b, none⟩) t2b := fun wx hb => by rw [← ht2b]; exact VB.cut hgB (HC2.out wx hb) 8 o2b ho2b
              have C2b : ∀ wx, Below wr.heap.size wr wx → ∀ j, j < t2b.size → wx.cell? ⟨g, o2b + j, none⟩ = some (.int .u8 ((t2b.get! j).toNat : Int)) := fun wx hb => by
                obtain ⟨g', o', e, _, h⟩ := V2b wx hb (by omega)
                cases e
                exact h
              obtain ⟨A2, hA2⟩ : ∃ A2, Lib.leNat [t2.get! 0, t2.get! 1, t2.get! 2, t2.get! 3, t2.get! 4, t2.get! 5, t2.get! 6, t2.get! 7] = A2 := ⟨_, rfl⟩
              have lA2 : A2 < 18446744073709551616 := hA2 ▸ Lib.word_lt t2
              have cW2 : ∀ W, Below wr.heap.size wr W → Calls Tryd.prog 27 #[.slice (some ⟨g, o2, none⟩) t2.size t2.size] W fun e w' => e = .returned (.int .u64 A2) ∧ ∃ q, w' = W.drewN q := fun W hb => by rw [← hA2]; exact word_any g o2 t2 W (by omega) (HC2.out W hb)
              have kA2 := Lib.word_asc t2 (by omega)
              rw [hA2] at kA2
              obtain ⟨A3, hA3⟩ : ∃ A3, Lib.leNat [t2b.get! 0, t2b.get! 1, t2b.get! 2, t2b.get! 3, t2b.get! 4, t2b.get! 5, t2b.get! 6, t2b.get! 7] = A3 := ⟨_, rfl⟩
              have lA3 : A3 < 18446744073709551616 := hA3 ▸ Lib.word_lt t2b
              have cW3 : ∀ W, Below wr.heap.size wr W → Calls Tryd.prog 27 #[.slice (some ⟨g, o2b, none⟩) t2b.size t2b.size] W fun e w' => e = .returned (.int .u64 A3) ∧ ∃ q, w' = W.drewN q := fun W hb => by rw [← hA3]; exact word_any g o2b t2b W (by omega) (C2b W hb)
              have CW2 := Lib.hid cW2
              have CW3 := Lib.hid cW3
              have kA3 := Lib.word_asc t2b (by omega)
              rw [hA3] at kA3
              have hor2 : bits .or .u64 (A2 : Int) (A3 : Int) = ((A2 ||| A3 : Nat) : Int) := u64_or_nat A2 A3 lA2 lA3
              have lor2 : A2 ||| A3 < 18446744073709551616 := Nat.or_lt_two_pow (n := 64) lA2 lA3
              have hand2 : bits .and .u64 ((A2 ||| A3 : Nat) : Int) 9259542123273814144 = (((A2 ||| A3) &&& 9259542123273814144 : Nat) : Int) := u64_and_nat _ 9259542123273814144 lor2 (by omega)
              have k2 : (A2 ||| A3) &&& 9259542123273814144 = 0 → Lib.Asc t2 16 := fun h0' => by
                obtain ⟨e1, e2⟩ := (Lib.or_mask A2 A3 _).1 h0'
                exact Lib.asc_add t2 8 8 (kA2.1 e1) (by rw [ht2b]; exact kA3.1 e2)
              obtain ⟨O2, hO2⟩ : ∃ O2, A2 ||| A3 = O2 := ⟨_, rfl⟩
              rw [hO2] at hor2 hand2 k2
              obtain ⟨Z2, hZ2⟩ : ∃ Z2, O2 &&& 9259542123273814144 = Z2 := ⟨_, rfl⟩
              rw [hZ2] at hand2 k2
              clear kA2 kA3 lor2 hO2 hZ2 cW2 cW3 hA2 hA3 ht2b V2b C2b
              by_cases hz2 : Z2 = 0
              · as_aux_lemma =>
                have hz2b : ((Z2 : Int) == 0) = true := by simp [hz2]
                have a16 := k2 hz2
                obtain ⟨t3, ht3⟩ : ∃ t3, t2.extract 16 t2.size = t3 := ⟨_, rfl⟩
                have z3 : t2.size - 16 = t3.size := by rw [← ht3, Lib.ext_size]
                have v3 : Lib.validD t3.data.toList = ANS := by rw [← ht3, Lib.valid_skip t2 16 a16]; exact HV2.out
                obtain ⟨o3, ho3⟩ : ∃ o3, o2 + 16 = o3 := ⟨_, rfl⟩
                have V3 : ∀ wx, Below wr.heap.size wr wx → VB wx B (some ⟨g, o3, none⟩) t3 := fun wx hb => by rw [← ht3]; exact VB.cut hgB (HC2.out wx hb) 16 o3 ho3
                have HVX3 := Lib.hid V3
                have HV3 := Lib.hid v3
                have HZ3 := Lib.hid (show t3.size + 16 = t2.size by omega)
                clear k2 a16 ht3 V3 v3 hz2
                go_quiet (first | (go_at_call 27; (with_reducible refine Calls.quiet_of (CW2.out _ ?_)); first | exact hbr1 | exact below_drewNv hbr1 _) | (go_at_call 27; (with_reducible refine Calls.quiet_of (CW3.out _ ?_)); first | exact hbr1 | exact below_drewNv hbr1 _))
                have hb2 : Below w.heap.size w (wq.drewN nq) := below_drewNv hb1 nq
                have hbr2 : Below wr.heap.size wr (wq.drewN nq) := below_drewNv hbr1 nq
                generalize wq.drewN nq = wq2 at hb2 hbr2 ⊢
                go_wp2
                -- 32 BYTES A ROUND
                obtain ⟨wo, rfl⟩ : ∃ wo : World, wo = wr := ⟨_, rfl⟩
                go_loopg [0] (t3.size + 1) (fun g2 s0 wx => Below w.heap.size w wx ∧ Below wo.heap.size wo wx ∧ ∃ (A : Option Addr) (u : ByteArray), s0 = .slice A u.size u.size ∧ VB wx B A u ∧ Lib.validD u.data.toList = ANS ∧ u.size < g2 ∧ u.size ≤ t3.size)
                case atStart => exact ⟨hb2, hbr2, _, t3, rfl, HVX3.out _ hbr2, HV3.out, by omega, Nat.le_refl _⟩
                case round =>
                  obtain ⟨hbu, hbru, A, u, rfl, hVu, vu, hgu, hut⟩ := hrel
                  by_cases c32 : 32 < u.size
                  · as_aux_lemma =>
                    obtain ⟨gu, ou, rfl, hgBu, hcu⟩ := hVu (by omega)
                    obtain ⟨g3, rfl⟩ : ∃ g3, gk = g3 + 1 := ⟨gk - 1, by omega⟩
                    have c32z : (32 : Int) < (u.size : Int) := by omega
                    have s8u : (8 : Int) ≤ (u.size : Int) := by omega
                    have s16u : (16 : Int) ≤ (u.size : Int) := by omega
                    have s24u : (24 : Int) ≤ (u.size : Int) := by omega
                    have n8u : ¬ (u.size = 8) := by omega
                    have n16u : ¬ (u.size = 16) := by omega
                    have n24u : ¬ (u.size = 24) := by omega
                    have n32u : ¬ (u.size = 32) := by omega
                    obtain ⟨ub, hub⟩ : ∃ ub, u.extract 8 u.size = ub := ⟨_, rfl⟩
                    have zub : u.size - 8 = ub.size := by rw [← hub, Lib.ext_size]
                    obtain ⟨oub, houb⟩ : ∃ oub, ou + 8 = oub := ⟨_, rfl⟩
                    have Cub : ∀ j, j < ub.size → wr.cell? ⟨gu, oub + j, none⟩ = some (.int .u8 ((ub.get! j).toNat : Int)) := by
                      have V : VB wr B (some ⟨gu, oub, none⟩) ub := by rw [← hub]; exact VB.cut hgBu hcu 8 oub houb
                      obtain ⟨g', o', e, _, h⟩ := V (by omega)
                      cases e
                      exact h
                    obtain ⟨uc, huc⟩ : ∃ uc, u.extract 16 u.size = uc := ⟨_, rfl⟩
                    have zuc : u.size - 16 = uc.size := by rw [← huc, Lib.ext_size]
                    obtain ⟨ouc, houc⟩ : ∃ ouc, ou + 16 = ouc := ⟨_, rfl⟩
                    have Cuc : ∀ j, j < uc.size → wr.cell? ⟨gu, ouc + j, none⟩ = some (.int .u8 ((uc.get! j).toNat : Int)) := by
                      have V : VB wr B (some ⟨gu, ouc, none⟩) uc := by rw [← huc]; exact VB.cut hgBu hcu 16 ouc houc
                      obtain ⟨g', o', e, _, h⟩ := V (by omega)
                      cases e
                      exact h
                    obtain ⟨ud, hud⟩ : ∃ ud, u.extract 24 u.size = ud := ⟨_, rfl⟩
                    have zud : u.size - 24 = ud.size := by rw [← hud, Lib.ext_size]
                    obtain ⟨oud, houd⟩ : ∃ oud, ou + 24 = oud := ⟨_, rfl⟩
                    have Cud : ∀ j, j < ud.size → wr.cell? ⟨gu, oud + j, none⟩ = some (.int .u8 ((ud.get! j).toNat : Int)) := by
                      have V : VB wr B (some ⟨gu, oud, none⟩) ud := by rw [← hud]; exact VB.cut hgBu hcu 24 oud houd
                      obtain ⟨g', o', e, _, h⟩ := V (by omega)
                      cases e
                      exact h
                    obtain ⟨B0, hB0⟩ : ∃ B0, Lib.leNat [u.get! 0, u.get! 1, u.get! 2, u.get! 3, u.get! 4, u.get! 5, u.get! 6, u.get! 7] = B0 := ⟨_, rfl⟩
                    have lB0 : B0 < 18446744073709551616 := hB0 ▸ Lib.word_lt u
                    have cB0 : ∀ W, Below wr.heap.size wr W → Calls Tryd.prog 27 #[.slice (some ⟨gu, ou, none⟩) u.size u.size] W fun e w' => e = .returned (.int .u64 B0) ∧ ∃ q, w' = W.drewN q := fun W hb => by
                      rw [← hB0]
                      exact word_any gu ou u W (by omega) (fun j hj => (hb.cell (p := ⟨gu, ou + j, none⟩) (by have := hbu.size; show gu < _; omega)).trans (hcu j hj))
                    have kB0 := Lib.word_asc u (by omega)
                    rw [hB0] at kB0
                    have CB0 := Lib.hid cB0
                    obtain ⟨B1, hB1⟩ : ∃ B1, Lib.leNat [ub.get! 0, ub.get! 1, ub.get! 2, ub.get! 3, ub.get! 4, ub.get! 5, ub.get! 6, ub.get! 7] = B1 := ⟨_, rfl⟩
                    have lB1 : B1 < 18446744073709551616 := hB1 ▸ Lib.word_lt ub
                    have cB1 : ∀ W, Below wr.heap.size wr W → Calls Tryd.prog 27 #[.slice (some ⟨gu, oub, none⟩) ub.size ub.size] W fun e w' => e = .returned (.int .u64 B1) ∧ ∃ q, w' = W.drewN q := fun W hb => by
                      rw [← hB1]
                      exact word_any gu oub ub W (by omega) (fun j hj => (hb.cell (p := ⟨gu, oub + j, none⟩) (by have := hbu.size; show gu < _; omega)).trans (Cub j hj))
                    have kB1 := Lib.word_asc ub (by omega)
                    rw [hB1] at kB1
                    have CB1 := Lib.hid cB1
                    obtain ⟨B2, hB2⟩ : ∃ B2, Lib.leNat [uc.get! 0, uc.get! 1, uc.get! 2, uc.get! 3, uc.get! 4, uc.get! 5, uc.get! 6, uc.get! 7] = B2 := ⟨_, rfl⟩
                    have lB2 : B2 < 18446744073709551616 := hB2 ▸ Lib.word_lt uc
                    have cB2 : ∀ W, Below wr.heap.size wr W → Calls Tryd.prog 27 #[.slice (some ⟨gu, ouc, none⟩) uc.size uc.size] W fun e w' => e = .returned (.int .u64 B2) ∧ ∃ q, w' = W.drewN q := fun W hb => by
                      rw [← hB2]
                      exact word_any gu ouc uc W (by omega) (fun j hj => (hb.cell (p := ⟨gu, ouc + j, none⟩) (by have := hbu.size; show gu < _; omega)).trans (Cuc j hj))
                    have kB2 := Lib.word_asc uc (by omega)
                    rw [hB2] at kB2
                    have CB2 := Lib.hid cB2
                    obtain ⟨B3, hB3⟩ : ∃ B3, Lib.leNat [ud.get! 0, ud.get! 1, ud.get! 2, ud.get! 3, ud.get! 4, ud.get! 5, ud.get! 6, ud.get! 7] = B3 := ⟨_, rfl⟩
                    have lB3 : B3 < 18446744073709551616 := hB3 ▸ Lib.word_lt ud
                    have cB3 : ∀ W, Below wr.heap.size wr W → Calls Tryd.prog 27 #[.slice (some ⟨gu, oud, none⟩) ud.size ud.size] W fun e w' => e = .returned (.int .u64 B3) ∧ ∃ q, w' = W.drewN q := fun W hb => by
                      rw [← hB3]
                      exact word_any gu oud ud W (by omega) (fun j hj => (hb.cell (p := ⟨gu, oud + j, none⟩) (by have := hbu.size; show gu < _; omega)).trans (Cud j hj))
                    have kB3 := Lib.word_asc ud (by omega)
                    rw [hB3] at kB3
                    have CB3 := Lib.hid cB3
                    have ho1 : bits .or .u64 (B0 : Int) (B1 : Int) = ((B0 ||| B1 : Nat) : Int) := u64_or_nat B0 B1 lB0 lB1
                    have ho2 : bits .or .u64 (B2 : Int) (B3 : Int) = ((B2 ||| B3 : Nat) : Int) := u64_or_nat B2 B3 lB2 lB3
                    have lo1 : B0 ||| B1 < 18446744073709551616 := Nat.or_lt_two_pow (n := 64) lB0 lB1
                    have lo2 : B2 ||| B3 < 18446744073709551616 := Nat.or_lt_two_pow (n := 64) lB2 lB3
                    have ho3 : bits .or .u64 ((B0 ||| B1 : Nat) : Int) ((B2 ||| B3 : Nat) : Int) = (((B0 ||| B1) ||| (B2 ||| B3) : Nat) : Int) := u64_or_nat _ _ lo1 lo2
                    have lo3 : (B0 ||| B1) ||| (B2 ||| B3) < 18446744073709551616 := Nat.or_lt_two_pow (n := 64) lo1 lo2
                    have hand3 : bits .and .u64 (((B0 ||| B1) ||| (B2 ||| B3) : Nat) : Int) 9259542123273814144 = ((((B0 ||| B1) ||| (B2 ||| B3)) &&& 9259542123273814144 : Nat) : Int) := u64_and_nat _ 9259542123273814144 lo3 (by omega)
                    have k3 : ((B0 ||| B1) ||| (B2 ||| B3)) &&& 9259542123273814144 = 0 → Lib.Asc u 32 := fun h0' => by
                      obtain ⟨e01, e23⟩ := (Lib.or_mask _ _ _).1 h0'
                      obtain ⟨e0, e1⟩ := (Lib.or_mask _ _ _).1 e01
                      obtain ⟨e2, e3⟩ := (Lib.or_mask _ _ _).1 e23
                      have s16 : Lib.Asc u 16 := Lib.asc_add u 8 8 (kB0.1 e0) (by rw [hub]; exact kB1.1 e1)
                      have s24 : Lib.Asc u 24 := Lib.asc_add u 16 8 s16 (by rw [huc]; exact kB2.1 e2)
                      exact Lib.asc_add u 24 8 s24 (by rw [hud]; exact kB3.1 e3)
                    obtain ⟨P1, hP1⟩ : ∃ P1, B0 ||| B1 = P1 := ⟨_, rfl⟩
                    obtain ⟨P2, hP2⟩ : ∃ P2, B2 ||| B3 = P2 := ⟨_, rfl⟩
                    rw [hP1, hP2] at ho3 hand3 k3
                    rw [hP1] at ho1
                    rw [hP2] at ho2
                    obtain ⟨P3, hP3⟩ : ∃ P3, P1 ||| P2 = P3 := ⟨_, rfl⟩
                    rw [hP3] at ho3 hand3 k3
                    obtain ⟨Z3, hZ3⟩ : ∃ Z3, P3 &&& 9259542123273814144 = Z3 := ⟨_, rfl⟩
                    rw [hZ3] at hand3 k3
                    clear kB0 kB1 kB2 kB3 lo1 lo2 lo3 hP1 hP2 hP3 hZ3 cB0 cB1 cB2 cB3 hB0 hB1 hB2 hB3 Cub Cuc Cud hub huc hud
                    have HCV := Lib.hid hcu
                    have HVU := Lib.hid vu
                    have HVB := Lib.hid hVu
                    clear hcu vu hVu
                    by_cases hz3 : Z3 = 0
                    · as_aux_lemma =>
                      have hz3b : ((Z3 : Int) == 0) = true := by simp [hz3]
                      have a32 := k3 hz3
                      obtain ⟨u2, hu2⟩ : ∃ u2, u.extract 32 u.size = u2 := ⟨_, rfl⟩
                      have zu2 : u.size - 32 = u2.size := by rw [← hu2, Lib.ext_size]
                      obtain ⟨ou2, hou2⟩ : ∃ ou2, ou + 32 = ou2 := ⟨_, rfl⟩
                      have V2 : VB wr B (some ⟨gu, ou2, none⟩) u2 := by rw [← hu2]; exact VB.cut hgBu HCV.out 32 ou2 hou2
                      have HV4 := Lib.hid V2
                      have HVU2 : Hid (Lib.validD u2.data.toList = ANS) := Lib.hid (by rw [← hu2, Lib.valid_skip u 32 a32]; exact HVU.out)
                      have HZ4 := Lib.hid (show u2.size + 32 = u.size by omega)
                      clear k3 a32 hu2 V2 hz3
                      go_wp2_with fail
                      go_quiet (first | (go_at_call 27; (with_reducible refine Calls.quiet_of (CB0.out _ ?_)); first | exact Below.refl _ _ | exact below_drewNv (Below.refl _ _) _) | (go_at_call 27; (with_reducible refine Calls.quiet_of (CB1.out _ ?_)); first | exact Below.refl _ _ | exact below_drewNv (Below.refl _ _) _) | (go_at_call 27; (with_reducible refine Calls.quiet_of (CB2.out _ ?_)); first | exact Below.refl _ _ | exact below_drewNv (Below.refl _ _) _) | (go_at_call 27; (with_reducible refine Calls.quiet_of (CB3.out _ ?_)); first | exact Below.refl _ _ | exact below_drewNv (Below.refl _ _) _))
                      go_wp2
                      go_roundg g3
                      case measure => omega
                      case rel => exact ⟨below_drewNv hbu nq, below_drewNv hbru nq, _, u2, rfl, HV4.out.below (below_drewNv (Below.refl _ _) nq), HVU2.out, by have := HZ4.out; omega, by have := HZ4.out; omega⟩
                    · as_aux_lemma =>
                      have hz3b : ((Z3 : Int) == 0) = false := by simp; omega
                      clear k3 hz3
                      go_wp2_with fail
                      go_quiet (first | (go_at_call 27; (with_reducible refine Calls.quiet_of (CB0.out _ ?_)); first | exact Below.refl _ _ | exact below_drewNv (Below.refl _ _) _) | (go_at_call 27; (with_reducible refine Calls.quiet_of (CB1.out _ ?_)); first | exact Below.refl _ _ | exact below_drewNv (Below.refl _ _) _) | (go_at_call 27; (with_reducible refine Calls.quiet_of (CB2.out _ ?_)); first | exact Below.refl _ _ | exact below_drewNv (Below.refl _ _) _) | (go_at_call 27; (with_reducible refine Calls.quiet_of (CB3.out _ ?_)); first | exact Below.refl _ _ | exact below_drewNv (Below.refl _ _) _))
                      go_wp2
                      go_roundg g'
                      case measure => omega
                      case rel => exact ⟨below_drewNv hbu nq, _, u, rfl, HVB.out.below (below_drewNv (Below.refl _ _) nq), HVU.out, by have := HZ3.out; have := HZ2.out; have := HZ1.out; omega, by have := HZ3.out; have := HZ2.out; have := HZ1.out; omega⟩
                  · have c32z : ¬ ((32 : Int) < (u.size : Int)) := by omega
                    have c32b : decide ((32 : Int) < (u.size : Int)) = false := decide_eq_false c32z
                    have HVB := Lib.hid hVu
                    have HVU := Lib.hid vu
                    clear hVu vu
                    go_wp2_with fail
                    go_quiet (fail)
                    go_wp2
                    go_roundg g'
                    case measure => omega
                    case rel => exact ⟨below_drewNv hbu nq, _, u, rfl, HVB.out.below (below_drewNv (Below.refl _ _) nq), HVU.out, by have := HZ3.out; have := HZ2.out; have := HZ1.out; omega, by have := HZ3.out; have := HZ2.out; have := HZ1.out; omega⟩
              · have hz2b : ((Z2 : Int) == 0) = false := by simp; omega
                clear k2 hz2
                go_quiet (first | (go_at_call 27; (with_reducible refine Calls.quiet_of (CW2.out _ ?_)); first | exact hbr1 | exact below_drewNv hbr1 _) | (go_at_call 27; (with_reducible refine Calls.quiet_of (CW3.out _ ?_)); first | exact hbr1 | exact below_drewNv hbr1 _))
                go_wp2
                go_roundg g'
                case measure => omega
                case rel => exact ⟨below_drewNv hb1 nq, _, t2, rfl, HVX2.out _ (below_drewNv hbr1 nq), HV2.out, by have := HZ2.out; have := HZ1.out; omega, by have := HZ2.out; have := HZ1.out; omega⟩
            · have c16z : ¬ ((16 : Int) < (t2.size : Int)) := by omega
              have c16b : decide ((16 : Int) < (t2.size : Int)) = false := decide_eq_false c16z
              go_quiet (fail)
              go_wp2
              go_roundg g'
              case measure => omega
              case rel => exact ⟨below_drewNv hb1 nq, _, t2, rfl, HVX2.out _ (below_drewNv hbr1 nq), HV2.out, by have := HZ2.out; have := HZ1.out; omega, by have := HZ2.out; have := HZ1.out; omega⟩
          · have hz1b : ((Z1 : Int) == 0) = false := by simp; omega
            have HV1 := Lib.hid v1
            clear kA1 v1 hz1
            go_wp2_with (go_at_call 27; go_must (refine (CW1.out _ (Below.refl _ _)).mono ?_; rintro e W1 ⟨rfl, q1, rfl⟩))
            go_roundg g'
            case measure => omega
            case rel => exact ⟨below_drewNv hbw q1, _, t1, rfl, HVX1.out _ (below_drewNv (Below.refl _ _) q1), HV1.out, by have := HZ1.out; omega, by have := HZ1.out; omega⟩
        · have c8z : ¬ ((8 : Int) < (t1.size : Int)) := by omega
          have HV1 := Lib.hid v1
          clear v1
          go_wp2
          go_roundg g'
          case measure => omega
          case rel => exact ⟨hbw, _, t1, rfl, HVX1.out _ (Below.refl _ _), HV1.out, by have := HZ1.out; omega, by have := HZ1.out; omega⟩
      · have hge : 128 ≤ x0.toNat := by omega
        have hascz : ¬ ((x0.toNat : Int) < 128) := by omega
        obtain ⟨x1, hx1⟩ : ∃ x1, t.get! 1 = x1 := ⟨_, rfl⟩
        obtain ⟨x2, hx2⟩ : ∃ x2, t.get! 2 = x2 := ⟨_, rfl⟩
        obtain ⟨x3, hx3⟩ : ∃ x3, t.get! 3 = x3 := ⟨_, rfl⟩
        have l1 := byte_lt x1; have l2 := byte_lt x2; have l3 := byte_lt x3
        have hne : t.data.toList ≠ [] := fun h => by rw [Lib.size_eq, h] at h0; simp at h0
        have hlead := Lib.validD_lead t.data.toList hne (by rw [Lib.getD_get!', hx0]; exact hge)
        rw [Lib.getD_get!', Lib.getD_get!', Lib.getD_get!', Lib.getD_get!', hx0, hx1, hx2, hx3, ← Lib.size_eq, hv] at hlead
        have hc0 := hTr.1 x0.toNat hx0lt
        have hXlt : Lib.firstT x0.toNat < 256 := by rcases Lib.firstT_cases x0.toNat with h | h | h | h | h | h | h | h | h <;> omega
        obtain ⟨X, hX⟩ : ∃ X, Lib.firstT x0.toNat = X := ⟨_, rfl⟩
        rw [hX] at hc0 hXlt hlead
        have h7 := and7v ⟨X, hXlt⟩
        simp only at h7
        have ha0 : wr.cell? ⟨1, X / 16 * 2, none⟩ = some (.int .u8 (Lib.accLo (X / 16))) := by rw [Nat.mul_comm]; exact (hTr.2 (X / 16) (by omega)).1
        have ha1 : wr.cell? ⟨1, X / 16 * 2 + 1, none⟩ = some (.int .u8 (Lib.accHi (X / 16))) := by rw [Nat.mul_comm]; exact (hTr.2 (X / 16) (by omega)).2
        obtain ⟨LO, hLO⟩ : ∃ LO, Lib.accLo (X / 16) = LO := ⟨_, rfl⟩
        obtain ⟨HI, hHI⟩ : ∃ HI, Lib.accHi (X / 16) = HI := ⟨_, rfl⟩
        rw [hLO] at ha0 hlead
        rw [hHI] at ha1 hlead
        obtain ⟨SZ, hSZ⟩ : ∃ SZ, X % 8 = SZ := ⟨_, rfl⟩
        rw [hSZ] at hlead
        have y1 : 1 < t.size → wr.cell? ⟨g, o + 1, none⟩ = some (.int .u8 (x1.toNat : Int)) := fun h => by rw [hc 1 h, hx1]
        have y2 : 2 < t.size → wr.cell? ⟨g, o + 2, none⟩ = some (.int .u8 (x2.toNat : Int)) := fun h => by rw [hc 2 h, hx2]
        have y3 : 3 < t.size → wr.cell? ⟨g, o + 3, none⟩ = some (.int .u8 (x3.toNat : Int)) := fun h => by rw [hc 3 h, hx3]
        have Y1 := Lib.hid y1; have Y2 := Lib.hid y2; have Y3 := Lib.hid y3
        have HC := Lib.hid hc
        have hgw : g < wr.heap.size := by have := hbw.size; omega
        clear hTr hT hX hv hLO hHI hne hc hV y1 y2 y3 hx0 hx1 hx2 hx3
        by_cases s2 : SZ = 2
        · as_aux_lemma =>
          subst s2
          have hSZz : (X : Int) % 8 = 2 := by omega
          simp only [Lib.checkN, Nat.reduceEqDiff, if_true, if_false] at hlead
          have HL := Lib.hid hlead
          clear hlead
          go_upto_region 18 with fail
          go_cut [103] from 85 to 103 (fun c wx => c = .bool (decide (t.size < 2 ∨ x1.toNat < LO ∨ HI < x1.toNat)) ∧ Below w.heap.size w wx ∧ Below wr.heap.size wr wx)
          case first =>
            by_cases q0 : t.size < 2
            · have q0z : (t.size : Int) < 2 := by omega
              have q0b : decide ((t.size : Int) < 2) = true := decide_eq_true q0z
              go_quiet (fail)
              go_wp2
              go_meet
              exact ⟨congrArg Value.bool (decide_eq_true (p := t.size < 2 ∨ x1.toNat < LO ∨ HI < x1.toNat) (by omega)).symm, below_drewNv (hbw.alloc hbw.size _) _, below_drewNv ((Below.refl _ _).alloc (Nat.le_refl _) _) _⟩
            · have q0z : ¬ ((t.size : Int) < 2) := by omega
              have hz1 : (1 : Int) < (t.size : Int) := by omega
              have hp1 : 1 < t.size := by omega
              have e1 := Y1.out hp1
              have e1' : ∀ x, (wr.alloc x).cell? ⟨g, o + 1, none⟩ = some (.int .u8 (x1.toNat : Int)) := fun x => (World.cell?_alloc_past _ _ _ hgw).trans e1
              by_cases q1 : x1.toNat < LO
              · have q1z : (x1.toNat : Int) < (LO : Int) := by omega
                go_quiet (fail)
                go_wp2
                go_meet
                exact ⟨congrArg Value.bool (decide_eq_true (p := t.size < 2 ∨ x1.toNat < LO ∨ HI < x1.toNat) (by omega)).symm, below_drewNv (hbw.alloc hbw.size _) _, below_drewNv ((Below.refl _ _).alloc (Nat.le_refl _) _) _⟩
              · have q1z : ¬ ((x1.toNat : Int) < (LO : Int)) := by omega
                by_cases q2 : HI < x1.toNat
                · have q2z : (HI : Int) < (x1.toNat : Int) := by omega
                  go_quiet (fail)
                  go_wp2
                  go_meet
                  exact ⟨congrArg Value.bool (decide_eq_true (p := t.size < 2 ∨ x1.toNat < LO ∨ HI < x1.toNat) (by omega)).symm, below_drewNv (hbw.alloc hbw.size _) _, below_drewNv ((Below.refl _ _).alloc (Nat.le_refl _) _) _⟩
                · have q2z : ¬ ((HI : Int) < (x1.toNat : Int)) := by omega
                  go_quiet (fail)
                  go_wp2
                  go_meet
                  exact ⟨congrArg Value.bool (decide_eq_false (p := t.size < 2 ∨ x1.toNat < LO ∨ HI < x1.toNat) (by omega)).symm, below_drewNv (hbw.alloc hbw.size _) _, below_drewNv ((Below.refl _ _).alloc (Nat.le_refl _) _) _⟩
          case rest =>
            obtain ⟨rfl, hbc, hbcr⟩ := hcut
            by_cases hb : t.size < 2 ∨ x1.toNat < LO ∨ HI < x1.toNat
            · have hbd : decide (t.size < 2 ∨ x1.toNat < LO ∨ HI < x1.toNat) = true := decide_eq_true hb
              have hl2 := HL.out
              rw [if_pos hb] at hl2
              have HL2 := Lib.hid hl2
              clear hl2
              go_wp2
              all_goals (go_ret; exact ⟨by rw [HL2.out]; rfl, hbc⟩)
            · have hbd : decide (t.size < 2 ∨ x1.toNat < LO ∨ HI < x1.toNat) = false := decide_eq_false hb
              have hl2 := HL.out
              rw [if_neg hb] at hl2
              have HL2 := Lib.hid hl2
              have hszz : 2 ≤ t.size := by omega
              have hszi : (2 : Int) ≤ (t.size : Int) := by omega
              clear hl2
              by_cases hke : t.size = 2
              · have HK := Lib.hid hke
                go_wp2
                go_roundg g'
                case measure => omega
                case rel => exact ⟨hbc, _, t.extract 2 t.size, by rw [Lib.ext_size, HK.out], tail0 t 2 HK.out _ _ _, by rw [Lib.ext_list, HL2.out], by rw [Lib.ext_size]; omega, by rw [Lib.ext_size]; omega⟩
              · obtain ⟨o9, ho9⟩ : ∃ o9, o + 2 = o9 := ⟨_, rfl⟩
                have z9 : t.size - 2 = (t.extract 2 t.size).size := (Lib.ext_size t 2).symm
                have V9 : VB wc B (some ⟨g, o9, none⟩) (t.extract 2 t.size) := VB.cut hgB (fun j hj => (hbcr.cell (p := ⟨g, o + j, none⟩) hgw).trans (HC.out j hj)) 2 o9 ho9
                obtain ⟨t9, ht9⟩ : ∃ t9, t.extract 2 t.size = t9 := ⟨_, rfl⟩
                rw [ht9] at z9 V9
                have V9H := Lib.hid V9
                have HL9 : Hid (Lib.validD t9.data.toList = ANS) := Lib.hid (by rw [← ht9, Lib.ext_list, HL2.out])
                have HZ9 := Lib.hid (show t9.size + 2 = t.size by omega)
                clear ht9 V9
                go_wp2
                go_roundg g'
                case measure => omega
                case rel => exact ⟨hbc, _, t9, rfl, V9H.out, HL9.out, by have := HZ9.out; omega, by have := HZ9.out; omega⟩
        by_cases s3 : SZ = 3
        · as_aux_lemma =>
          subst s3
          have hSZz : (X : Int) % 8 = 3 := by omega
          simp only [Lib.checkN, Nat.reduceEqDiff, if_true, if_false] at hlead
          have HL := Lib.hid hlead
          clear hlead
          go_upto_region 22 with fail
          go_cut [138] from 108 to 138 (fun c wx => c = .bool (decide (t.size < 3 ∨ x1.toNat < LO ∨ HI < x1.toNat ∨ x2.toNat < 128 ∨ 191 < x2.toNat)) ∧ Below w.heap.size w wx ∧ Below wr.heap.size wr wx)
          case first =>
            by_cases q0 : t.size < 3
            · have q0z : (t.size : Int) < 3 := by omega
              have q0b : decide ((t.size : Int) < 3) = true := decide_eq_true q0z
              go_quiet (fail)
              go_wp2
              go_meet
              exact ⟨congrArg Value.bool (decide_eq_true (p := t.size < 3 ∨ x1.toNat < LO ∨ HI < x1.toNat ∨ x2.toNat < 128 ∨ 191 < x2.toNat) (by omega)).symm, below_drewNv (hbw.alloc hbw.size _) _, below_drewNv ((Below.refl _ _).alloc (Nat.le_refl _) _) _⟩
            · have q0z : ¬ ((t.size : Int) < 3) := by omega
              have hz1 : (1 : Int) < (t.size : Int) := by omega
              have hp1 : 1 < t.size := by omega
              have e1 := Y1.out hp1
              have e1' : ∀ x, (wr.alloc x).cell? ⟨g, o + 1, none⟩ = some (.int .u8 (x1.toNat : Int)) := fun x => (World.cell?_alloc_past _ _ _ hgw).trans e1
              have hz2 : (2 : Int) < (t.size : Int) := by omega
              have hp2 : 2 < t.size := by omega
              have e2 := Y2.out hp2
              have e2' : ∀ x, (wr.alloc x).cell? ⟨g, o + 2, none⟩ = some (.int .u8 (x2.toNat : Int)) := fun x => (World.cell?_alloc_past _ _ _ hgw).trans e2
              by_cases q1 : x1.toNat < LO
              · have q1z : (x1.toNat : Int) < (LO : Int) := by omega
                go_quiet (fail)
                go_wp2
                go_meet
                exact ⟨congrArg Value.bool (decide_eq_true (p := t.size < 3 ∨ x1.toNat < LO ∨ HI < x1.toNat ∨ x2.toNat < 128 ∨ 191 < x2.toNat) (by omega)).symm, below_drewNv (hbw.alloc hbw.size _) _, below_drewNv ((Below.refl _ _).alloc (Nat.le_refl _) _) _⟩
              · have q1z : ¬ ((x1.toNat : Int) < (LO : Int)) := by omega
                by_cases q2 : HI < x1.toNat
                · have q2z : (HI : Int) < (x1.toNat : Int) := by omega
                  go_quiet (fail)
                  go_wp2
                  go_meet
                  exact ⟨congrArg Value.bool (decide_eq_true (p := t.size < 3 ∨ x1.toNat < LO ∨ HI < x1.toNat ∨ x2.toNat < 128 ∨ 191 < x2.toNat) (by omega)).symm, below_drewNv (hbw.alloc hbw.size _) _, below_drewNv ((Below.refl _ _).alloc (Nat.le_refl _) _) _⟩
                · have q2z : ¬ ((HI : Int) < (x1.toNat : Int)) := by omega
                  by_cases q3 : x2.toNat < 128
                  · have q3z : (x2.toNat : Int) < 128 := by omega
                    go_quiet (fail)
                    go_wp2
                    go_meet
                    exact ⟨congrArg Value.bool (decide_eq_true (p := t.size < 3 ∨ x1.toNat < LO ∨ HI < x1.toNat ∨ x2.toNat < 128 ∨ 191 < x2.toNat) (by omega)).symm, below_drewNv (hbw.alloc hbw.size _) _, below_drewNv ((Below.refl _ _).alloc (Nat.le_refl _) _) _⟩
                  · have q3z : ¬ ((x2.toNat : Int) < 128) := by omega
                    by_cases q4 : 191 < x2.toNat
                    · have q4z : (191 : Int) < (x2.toNat : Int) := by omega
                      go_quiet (fail)
                      go_wp2
                      go_meet
                      exact ⟨congrArg Value.bool (decide_eq_true (p := t.size < 3 ∨ x1.toNat < LO ∨ HI < x1.toNat ∨ x2.toNat < 128 ∨ 191 < x2.toNat) (by omega)).symm, below_drewNv (hbw.alloc hbw.size _) _, below_drewNv ((Below.refl _ _).alloc (Nat.le_refl _) _) _⟩
                    · have q4z : ¬ ((191 : Int) < (x2.toNat : Int)) := by omega
                      go_quiet (fail)
                      go_wp2
                      go_meet
                      exact ⟨congrArg Value.bool (decide_eq_false (p := t.size < 3 ∨ x1.toNat < LO ∨ HI < x1.toNat ∨ x2.toNat < 128 ∨ 191 < x2.toNat) (by omega)).symm, below_drewNv (hbw.alloc hbw.size _) _, below_drewNv ((Below.refl _ _).alloc (Nat.le_refl _) _) _⟩
          case rest =>
            obtain ⟨rfl, hbc, hbcr⟩ := hcut
            by_cases hb : t.size < 3 ∨ x1.toNat < LO ∨ HI < x1.toNat ∨ x2.toNat < 128 ∨ 191 < x2.toNat
            · have hbd : decide (t.size < 3 ∨ x1.toNat < LO ∨ HI < x1.toNat ∨ x2.toNat < 128 ∨ 191 < x2.toNat) = true := decide_eq_true hb
              have hl2 := HL.out
              rw [if_pos hb] at hl2
              have HL2 := Lib.hid hl2
              clear hl2
              go_wp2
              all_goals (go_ret; exact ⟨by rw [HL2.out]; rfl, hbc⟩)
            · have hbd : decide (t.size < 3 ∨ x1.toNat < LO ∨ HI < x1.toNat ∨ x2.toNat < 128 ∨ 191 < x2.toNat) = false := decide_eq_false hb
              have hl2 := HL.out
              rw [if_neg hb] at hl2
              have HL2 := Lib.hid hl2
              have hszz : 3 ≤ t.size := by omega
              have hszi : (3 : Int) ≤ (t.size : Int) := by omega
              clear hl2
              by_cases hke : t.size = 3
              · have HK := Lib.hid hke
                go_wp2
                go_roundg g'
                case measure => omega
                case rel => exact ⟨hbc, _, t.extract 3 t.size, by rw [Lib.ext_size, HK.out], tail0 t 3 HK.out _ _ _, by rw [Lib.ext_list, HL2.out], by rw [Lib.ext_size]; omega, by rw [Lib.ext_size]; omega⟩
              · obtain ⟨o9, ho9⟩ : ∃ o9, o + 3 = o9 := ⟨_, rfl⟩
                have z9 : t.size - 3 = (t.extract 3 t.size).size := (Lib.ext_size t 3).symm
                have V9 : VB wc B (some ⟨g, o9, none⟩) (t.extract 3 t.size) := VB.cut hgB (fun j hj => (hbcr.cell (p := ⟨g, o + j, none⟩) hgw).trans (HC.out j hj)) 3 o9 ho9
                obtain ⟨t9, ht9⟩ : ∃ t9, t.extract 3 t.size = t9 := ⟨_, rfl⟩
                rw [ht9] at z9 V9
                have V9H := Lib.hid V9
                have HL9 : Hid (Lib.validD t9.data.toList = ANS) := Lib.hid (by rw [← ht9, Lib.ext_list, HL2.out])
                have HZ9 := Lib.hid (show t9.size + 3 = t.size by omega)
                clear ht9 V9
                go_wp2
                go_roundg g'
                case measure => omega
                case rel => exact ⟨hbc, _, t9, rfl, V9H.out, HL9.out, by have := HZ9.out; omega, by have := HZ9.out; omega⟩
        by_cases s4 : SZ = 4
        · as_aux_lemma =>
          subst s4
          have hSZz : (X : Int) % 8 = 4 := by omega
          simp only [Lib.checkN, Nat.reduceEqDiff, if_true, if_false] at hlead
          have HL := Lib.hid hlead
          clear hlead
          go_upto_region 26 with fail
          go_cut [185] from 143 to 185 (fun c wx => c = .bool (decide (t.size < 4 ∨ x1.toNat < LO ∨ HI < x1.toNat ∨ x2.toNat < 128 ∨ 191 < x2.toNat ∨ x3.toNat < 128 ∨ 191 < x3.toNat)) ∧ Below w.heap.size w wx ∧ Below wr.heap.size wr wx)
          case first =>
            by_cases q0 : t.size < 4
            · have q0z : (t.size : Int) < 4 := by omega
              have q0b : decide ((t.size : Int) < 4) = true := decide_eq_true q0z
              go_quiet (fail)
              go_wp2
              go_meet
              exact ⟨congrArg Value.bool (decide_eq_true (p := t.size < 4 ∨ x1.toNat < LO ∨ HI < x1.toNat ∨ x2.toNat < 128 ∨ 191 < x2.toNat ∨ x3.toNat < 128 ∨ 191 < x3.toNat) (by omega)).symm, below_drewNv (hbw.alloc hbw.size _) _, below_drewNv ((Below.refl _ _).alloc (Nat.le_refl _) _) _⟩
            · have q0z : ¬ ((t.size : Int) < 4) := by omega
              have hz1 : (1 : Int) < (t.size : Int) := by omega
              have hp1 : 1 < t.size := by omega
              have e1 := Y1.out hp1
              have e1' : ∀ x, (wr.alloc x).cell? ⟨g, o + 1, none⟩ = some (.int .u8 (x1.toNat : Int)) := fun x => (World.cell?_alloc_past _ _ _ hgw).trans e1
              have hz2 : (2 : Int) < (t.size : Int) := by omega
              have hp2 : 2 < t.size := by omega
              have e2 := Y2.out hp2
              have e2' : ∀ x, (wr.alloc x).cell? ⟨g, o + 2, none⟩ = some (.int .u8 (x2.toNat : Int)) := fun x => (World.cell?_alloc_past _ _ _ hgw).trans e2
              have hz3 : (3 : Int) < (t.size : Int) := by omega
              have hp3 : 3 < t.size := by omega
              have e3 := Y3.out hp3
              have e3' : ∀ x, (wr.alloc x).cell? ⟨g, o + 3, none⟩ = some (.int .u8 (x3.toNat : Int)) := fun x => (World.cell?_alloc_past _ _ _ hgw).trans e3
              by_cases q1 : x1.toNat < LO
              · have q1z : (x1.toNat : Int) < (LO : Int) := by omega
                go_quiet (fail)
                go_wp2
                go_meet
                exact ⟨congrArg Value.bool (decide_eq_true (p := t.size < 4 ∨ x1.toNat < LO ∨ HI < x1.toNat ∨ x2.toNat < 128 ∨ 191 < x2.toNat ∨ x3.toNat < 128 ∨ 191 < x3.toNat) (by omega)).symm, below_drewNv (hbw.alloc hbw.size _) _, below_drewNv ((Below.refl _ _).alloc (Nat.le_refl _) _) _⟩
              · have q1z : ¬ ((x1.toNat : Int) < (LO : Int)) := by omega
                by_cases q2 : HI < x1.toNat
                · have q2z : (HI : Int) < (x1.toNat : Int) := by omega
                  go_quiet (fail)
                  go_wp2
                  go_meet
                  exact ⟨congrArg Value.bool (decide_eq_true (p := t.size < 4 ∨ x1.toNat < LO ∨ HI < x1.toNat ∨ x2.toNat < 128 ∨ 191 < x2.toNat ∨ x3.toNat < 128 ∨ 191 < x3.toNat) (by omega)).symm, below_drewNv (hbw.alloc hbw.size _) _, below_drewNv ((Below.refl _ _).alloc (Nat.le_refl _) _) _⟩
                · have q2z : ¬ ((HI : Int) < (x1.toNat : Int)) := by omega
                  by_cases q3 : x2.toNat < 128
                  · have q3z : (x2.toNat : Int) < 128 := by omega
                    go_quiet (fail)
                    go_wp2
                    go_meet
                    exact ⟨congrArg Value.bool (decide_eq_true (p := t.size < 4 ∨ x1.toNat < LO ∨ HI < x1.toNat ∨ x2.toNat < 128 ∨ 191 < x2.toNat ∨ x3.toNat < 128 ∨ 191 < x3.toNat) (by omega)).symm, below_drewNv (hbw.alloc hbw.size _) _, below_drewNv ((Below.refl _ _).alloc (Nat.le_refl _) _) _⟩
                  · have q3z : ¬ ((x2.toNat : Int) < 128) := by omega
                    by_cases q4 : 191 < x2.toNat
                    · have q4z : (191 : Int) < (x2.toNat : Int) := by omega
                      go_quiet (fail)
                      go_wp2
                      go_meet
                      exact ⟨congrArg Value.bool (decide_eq_true (p := t.size < 4 ∨ x1.toNat < LO ∨ HI < x1.toNat ∨ x2.toNat < 128 ∨ 191 < x2.toNat ∨ x3.toNat < 128 ∨ 191 < x3.toNat) (by omega)).symm, below_drewNv (hbw.alloc hbw.size _) _, below_drewNv ((Below.refl _ _).alloc (Nat.le_refl _) _) _⟩
                    · have q4z : ¬ ((191 : Int) < (x2.toNat : Int)) := by omega
                      by_cases q5 : x3.toNat < 128
                      · have q5z : (x3.toNat : Int) < 128 := by omega
                        go_quiet (fail)
                        go_wp2
                        go_meet
                        exact ⟨congrArg Value.bool (decide_eq_true (p := t.size < 4 ∨ x1.toNat < LO ∨ HI < x1.toNat ∨ x2.toNat < 128 ∨ 191 < x2.toNat ∨ x3.toNat < 128 ∨ 191 < x3.toNat) (by omega)).symm, below_drewNv (hbw.alloc hbw.size _) _, below_drewNv ((Below.refl _ _).alloc (Nat.le_refl _) _) _⟩
                      · have q5z : ¬ ((x3.toNat : Int) < 128) := by omega
                        by_cases q6 : 191 < x3.toNat
                        · have q6z : (191 : Int) < (x3.toNat : Int) := by omega
                          go_quiet (fail)
                          go_wp2
                          go_meet
                          exact ⟨congrArg Value.bool (decide_eq_true (p := t.size < 4 ∨ x1.toNat < LO ∨ HI < x1.toNat ∨ x2.toNat < 128 ∨ 191 < x2.toNat ∨ x3.toNat < 128 ∨ 191 < x3.toNat) (by omega)).symm, below_drewNv (hbw.alloc hbw.size _) _, below_drewNv ((Below.refl _ _).alloc (Nat.le_refl _) _) _⟩
                        · have q6z : ¬ ((191 : Int) < (x3.toNat : Int)) := by omega
                          go_quiet (fail)
                          go_wp2
                          go_meet
                          exact ⟨congrArg Value.bool (decide_eq_false (p := t.size < 4 ∨ x1.toNat < LO ∨ HI < x1.toNat ∨ x2.toNat < 128 ∨ 191 < x2.toNat ∨ x3.toNat < 128 ∨ 191 < x3.toNat) (by omega)).symm, below_drewNv (hbw.alloc hbw.size _) _, below_drewNv ((Below.refl _ _).alloc (Nat.le_refl _) _) _⟩
          case rest =>
            obtain ⟨rfl, hbc, hbcr⟩ := hcut
            by_cases hb : t.size < 4 ∨ x1.toNat < LO ∨ HI < x1.toNat ∨ x2.toNat < 128 ∨ 191 < x2.toNat ∨ x3.toNat < 128 ∨ 191 < x3.toNat
            · have hbd : decide (t.size < 4 ∨ x1.toNat < LO ∨ HI < x1.toNat ∨ x2.toNat < 128 ∨ 191 < x2.toNat ∨ x3.toNat < 128 ∨ 191 < x3.toNat) = true := decide_eq_true hb
              have hl2 := HL.out
              rw [if_pos hb] at hl2
              have HL2 := Lib.hid hl2
              clear hl2
              go_wp2
              all_goals (go_ret; exact ⟨by rw [HL2.out]; rfl, hbc⟩)
            · have hbd : decide (t.size < 4 ∨ x1.toNat < LO ∨ HI < x1.toNat ∨ x2.toNat < 128 ∨ 191 < x2.toNat ∨ x3.toNat < 128 ∨ 191 < x3.toNat) = false := decide_eq_false hb
              have hl2 := HL.out
              rw [if_neg hb] at hl2
              have HL2 := Lib.hid hl2
              have hszz : 4 ≤ t.size := by omega
              have hszi : (4 : Int) ≤ (t.size : Int) := by omega
              clear hl2
              by_cases hke : t.size = 4
              · have HK := Lib.hid hke
                go_wp2
                go_roundg g'
                case measure => omega
                case rel => exact ⟨hbc, _, t.extract 4 t.size, by rw [Lib.ext_size, HK.out], tail0 t 4 HK.out _ _ _, by rw [Lib.ext_list, HL2.out], by rw [Lib.ext_size]; omega, by rw [Lib.ext_size]; omega⟩
              · obtain ⟨o9, ho9⟩ : ∃ o9, o + 4 = o9 := ⟨_, rfl⟩
                have z9 : t.size - 4 = (t.extract 4 t.size).size := (Lib.ext_size t 4).symm
                have V9 : VB wc B (some ⟨g, o9, none⟩) (t.extract 4 t.size) := VB.cut hgB (fun j hj => (hbcr.cell (p := ⟨g, o + j, none⟩) hgw).trans (HC.out j hj)) 4 o9 ho9
                obtain ⟨t9, ht9⟩ : ∃ t9, t.extract 4 t.size = t9 := ⟨_, rfl⟩
                rw [ht9] at z9 V9
                have V9H := Lib.hid V9
                have HL9 : Hid (Lib.validD t9.data.toList = ANS) := Lib.hid (by rw [← ht9, Lib.ext_list, HL2.out])
                have HZ9 := Lib.hid (show t9.size + 4 = t.size by omega)
                clear ht9 V9
                go_wp2
                go_roundg g'
                case measure => omega
                case rel => exact ⟨hbc, _, t9, rfl, V9H.out, HL9.out, by have := HZ9.out; omega, by have := HZ9.out; omega⟩
        have e2 : ¬ ((X : Int) % 8 = 2) := by omega
        have e3 : ¬ ((X : Int) % 8 = 3) := by omega
        have e4 : ¬ ((X : Int) % 8 = 4) := by omega
        have e2b : (((X : Int) % 8) == 2) = false := by simp; omega
        have e3b : (((X : Int) % 8) == 3) = false := by simp; omega
        have e4b : (((X : Int) % 8) == 4) = false := by simp; omega
        simp only [Lib.checkN, s2, s3, s4, if_false] at hlead
        have HL := Lib.hid hlead
        clear hlead
        go_wp2
        all_goals (go_ret; exact ⟨by rw [HL.out]; rfl, hbw.alloc hbw.size _⟩)
    · have h0z : ¬ ((0 : Int) < (t.size : Int)) := by omega
      have ht0 : t.data.toList = [] := List.eq_nil_of_length_eq_zero (by rw [← Lib.size_eq]; omega)
      rw [ht0, Lib.validD_nil] at hv
      subst hv
      go_wp2
      go_ret
      exact ⟨rfl, hbw⟩

end Go.Proofs.YtonkkojankmhbaaDoor
