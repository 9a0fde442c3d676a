import Derived.Test.YtonkkojankmhbaaDoorItB
namespace Go.Proofs.YtonkkojankmhbaaDoor
open Go.RowKit
open Wp (It)

set_option maxRecDepth 100000 in
set_option maxHeartbeats 8000000 in
theorem item_data (vf : List UInt8 → Bool) (base bw g o B : Nat) (W : World) (left : Int) (deep : Nat) (v : Value) (bs : List UInt8) (hw : WS W base bw left v bs) (hl : 1 ≤ left) (hl2 : left ≤ 4096) (hd : deep ≤ 16) (hB : B ≤ base) (hs : base ≤ W.heap.size) (hbs : bs.length ≤ 65800)
    (k : Int) (n : Nat) (d : List UInt8) (l : List It) (hp : PtrIt W B (.mk k n d l) g o) (f : Nat) (j : Nat) (fb : Bool) (hk : k = 2 ∨ k = 3) (hfind : Instr.findNow (.int .i64) (.int .i64 k) shapesMap.toList 0 = some (some (j, shp false true false f)))
    (hent : Enters Tryd.prog f) (hfit : ∀ Wx, Below base W Wx → PtrIt Wx B (.mk k n d l) g o → Calls Tryd.prog f #[.pointer (some ⟨g, o, none⟩)] Wx fun e w' => e = .returned (.bool fb) ∧ Below Wx.heap.size Wx w')
    (hfine : Wp.fine vf k n d l = (fb && (false || n == 0) && (true || d.length == 0) && (false || l.length == 0))) :
    Calls Tryd.prog 10 #[.pointer (some ⟨bw, 0, none⟩), .pointer (some ⟨g, o, none⟩), .int .i64 deep] W (ItemPost W base bw v bs (Wp.pItem vf (.mk k n d l) deep left bs)) := by
  have hentf : ∀ args w, (callFunc f args).run Tryd.prog w = .ok (.enter f args) w := hent
  have HF := Lib.hid hfit
  have HN := Lib.hid hfine
  clear hent hfit hfine
  have hc0 : W.cell? ⟨bw, 0, none⟩ = some (.int .i64 left) := Blk.cell (t := 41) hw.blk 0
  have hf0 : W.frozen? ⟨bw, 0, none⟩ = false := Blk.frozen hw.blk 0
  obtain ⟨A, c, A2, c2, cells, ic⟩ := hp.cells
  have hdz : (deep : Int) ≤ 16 := by omega
  have hb1 : Below base W (W.setCell ⟨bw, 0, none⟩ (.int .i64 (left - 1))) := (Below.refl _ _).setCell hw.hb _
  have ic1 := ic.below (hb1.mono hB)
  have hp1 := hp.below (hb1.mono hB)
  have hw1 : WS (W.setCell ⟨bw, 0, none⟩ (.int .i64 (left - 1))) base bw (left - 1) v bs := (hw.setLeft _).1
  have ha1 : Adv W bw v bs.length (W.setCell ⟨bw, 0, none⟩ (.int .i64 (left - 1))) v := (hw.setLeft _).2
  go_enter Tryd.func10, Tryd.ntmps10
  go_wp2_with (go_at_call 14; refine (one_yes _ _ _ _ _ hc0 hf0 hl hl2 hdz).mono ?_; rintro e w' ⟨rfl, rfl⟩)
  have h0 := ic1.f0
  generalize W.setCell ⟨bw, 0, none⟩ (.int .i64 (left - 1)) = W1 at *
  have hgs : g < W1.heap.size := by have := hb1.size; have := Nat.lt_of_lt_of_le ic.gb (Nat.le_trans hB hs); omega
  have h0a : ∀ x, (W1.alloc x).cell? ⟨g, o, none⟩ = some (.int .i64 k) := fun x => (World.cell?_alloc_past _ _ _ hgs).trans h0
  have h0b : ∀ x y, ((W1.alloc x).alloc y).cell? ⟨g, o, none⟩ = some (.int .i64 k) := fun x y => (World.cell?_alloc_past _ _ _ (by simp; omega)).trans (h0a x)
  have L1 := run_find_shape (W1.alloc (.map shapesMap 7)).drew W1.heap.size k (.agg #[.bool false, .bool true, .bool false, .func (.func f) #[] #[]]) shapesMap 7 j (heap_alloc_new W1 _) hfind
  have L2 := fun (x : Obj) => run_find_shape ((W1.alloc (.map shapesMap 7)).alloc x).drew W1.heap.size k (.agg #[.bool false, .bool true, .bool false, .func (.func f) #[] #[]]) shapesMap 7 j ((heap_alloc_old (W1.alloc (.map shapesMap 7)) _ (by simp)).trans (heap_alloc_new W1 _)) hfind
  have L3 := fun (x : Obj) => run_find_shape ((W1.alloc x).alloc (.map shapesMap 7)).drew (W1.heap.size + 1) k (.agg #[.bool false, .bool true, .bool false, .func (.func f) #[] #[]]) shapesMap 7 j (heap_alloc_new2 W1 x _) hfind
  clear hfind
  go_upto_region 1 with fail
  go_cut [6, 7] (fun s6 s7 wx => ∃ sg : Nat, s6 = .pointer (some ⟨sg, 0, none⟩) ∧ s7 = .bool true ∧ wx.heap[sg]? = some (.cells #[.bool false, .bool true, .bool false, .func (.func f) #[] #[]] 53 (0, 0)) ∧ W1.heap.size ≤ sg ∧ Below W1.heap.size W1 wx)
  case first =>
    go_region_with (go_at_call 15; refine (shapes_any _).mono ?_; rintro e w' ⟨rfl, rfl⟩)
    all_goals (go_wp2_with fail; go_meet; first | exact ⟨W1.heap.size, rfl, rfl, cut_old W1 _ _, Nat.le_refl _, cut_below W1 _ _⟩ | exact ⟨W1.heap.size + 1, rfl, rfl, heap_alloc_new2 W1 _ _, Nat.le_succ _, cut_below W1 _ _⟩)
  case rest =>
    obtain ⟨sg, rfl, rfl, hsg, hsz, hbc⟩ := hcut
    clear L1 L2 L3 h0a h0b h0
    have hw2 := hw1.below hbc
    have ic2 := ic1.below (hbc.mono (Nat.le_trans hB (Nat.le_trans hs hb1.size)))
    have hp2 := hp1.below (hbc.mono (Nat.le_trans hB (Nat.le_trans hs hb1.size)))
    have q0 : wc.cell? ⟨sg, 0, none⟩ = some (.bool false) := Blk.cell (t := 53) hsg 0
    have q1 : wc.cell? ⟨sg, 1, none⟩ = some (.bool true) := Blk.cell (t := 53) hsg 1
    have q2 : wc.cell? ⟨sg, 2, none⟩ = some (.bool false) := Blk.cell (t := 53) hsg 2
    have q3 : wc.cell? ⟨sg, 3, none⟩ = some (.func (.func f) #[] #[]) := Blk.cell (t := 53) hsg 3
    have ha2 : Adv W bw v bs.length wc v := ha1.then_below hw.own hbc
    have hb2 : Below base W wc := hb1.trans (hbc.mono (Nat.le_trans hs hb1.size))
    have HK := Lib.hid hk
    cases fb with
    | false =>
      have HNO := Lib.hid (pItem_bad (vf := vf) (k := k) (n := n) (d := d) (l := l) (deep := deep) (left := left) (bs := bs) (by rw [HN.out]; rfl))
      clear hk
      go_wp2_with (first | (go_at_fn f; refine (HF.out _ hb2 hp2).mono ?_; rintro e W3 ⟨rfl, hb3⟩) | (go_at_call 16; refine (must_no _).mono ?_; rintro e w' ⟨rfl, rfl⟩))
      exact ⟨rfl, end_bad HNO.out (ha2.then_below hw.own hb3)⟩
    | true =>
      by_cases hn0 : n = 0
      · by_cases hl0 : l.length = 0
        · have e1 : ((n : Int) == 0) = true := by simp [hn0]
          have e2 : ((l.length : Int) == 0) = true := by simp [hl0]
          have hok : Wp.fine vf k n d l = true := by rw [HN.out, hn0, hl0]; rfl
          have HP := Lib.hid (pItem_data (bs := bs) hok hl hd hk)
          clear hn0 hl0 hok hk
          by_cases h64 : d.length ≤ 65536
          · have h64z : (d.length : Int) ≤ 65536 := by omega
            go_upto_region 8 with (first | (go_at_fn f; refine (HF.out _ hb2 hp2).mono ?_; rintro e W3 ⟨rfl, hb3⟩; have ic3 := ic2.below (hb3.mono (Nat.le_trans hB (Nat.le_trans hs hb2.size))); have g1 := ic3.f1; have g2 := ic3.f2; have g3 := ic3.f3; have q1' := (Below.cell (p := ⟨sg, 1, none⟩) hb3 (Blk.lt hsg)).trans q1; have q2' := (Below.cell (p := ⟨sg, 2, none⟩) hb3 (Blk.lt hsg)).trans q2; have q0' := (Below.cell (p := ⟨sg, 0, none⟩) hb3 (Blk.lt hsg)).trans q0) | (go_at_call 16; refine (must_yes _).mono ?_; rintro e w' ⟨rfl, rfl⟩))
            have hw3 := hw2.below hb3
            have hs3 : base ≤ W3.heap.size := Nat.le_trans hs (Nat.le_trans hb2.size hb3.size)
            have HKN := Lib.hid (show k = ((k.toNat : Nat) : Int) by have := HK.out; omega)
            have hk8 : k.toNat < 8 := by have := HK.out; omega
            have g0 := ic3.f0
            have hs3' : base ≤ W3.drew.heap.size := hs3
            have hwu : IntKind.u64.wrap (d.length : Int) = (d.length : Int) := u64_len _ (by omega)
            go_cut [] (fun wx => ∃ v4, WS wx base bw (left - 1) v4 (bs ++ Wp.headB k.toNat d.length) ∧ Adv W3 bw v bs.length wx v4)
            case first =>
              go_region_with (go_at_call 17; (with_reducible refine (head_at k k.toNat HKN.out base bw d.length _ _ _ _ hw3.drew hs3' hk8 (by have := ic.db; omega) (by omega)).mono ?_); rintro e W4 ⟨rfl, v4, h4, a4⟩)
              all_goals (go_wp2_with fail; go_meet; exact ⟨v4, h4, (Adv.of_below (Below.refl _ _).drew (fun g hg => (own_lt hw3.own hg).2)).trans a4 (Nat.le_refl _) hw3.own (own_not_bw hw3.blk hw3.own)⟩)
            case rest =>
              obtain ⟨v4, h4, a4⟩ := hcut
              have a4' := (ha2.then_below hw.own hb3).trans a4 (Nat.le_refl _) hw.own (own_not_bw hw.blk hw.own)
              have hb4 := a4'.below hw.own hw.hb hs
              have ic4 := ic.below (hb4.mono hB)
              have hlen4 : (bs ++ Wp.headB k.toNat d.length).length ≤ 65810 := by
                have := Wp.headB_length k.toNat d.length
                simp only [List.length_append]; omega
              have HPo := HP.out
              rw [if_pos h64] at HPo
              have hle4 : bs.length ≤ (bs ++ Wp.headB k.toNat d.length).length := by simp
              generalize bs ++ Wp.headB k.toNat d.length = bs4 at *
              have HQ := Lib.hid HPo
              clear HP HPo
              obtain ⟨A4, c4, rfl⟩ := own_slice h4.own
              have hc4 : wc.cell? ⟨bw, 1, none⟩ = some (.slice A4 bs4.length c4) := Blk.cell (t := 41) h4.blk 1
              have hf4 : wc.frozen? ⟨bw, 1, none⟩ = false := Blk.frozen h4.blk 1
              have g2' := ic4.f2
              obtain ⟨i0, hi0, hz0, hz1, hz2⟩ := info_parts info5
              have hs4 : base ≤ wc.heap.size := Nat.le_trans hs hb4.size
              go_upto_region 9 with fail
              go_region_law (refine step_append_grew (P := Tryd.prog) _ rfl (.tmp 108) (.tmp 112) 24 rfl base 5 i0 _ 1 1 Tryd.underlying24 hi0 hz0 hz1 hz2 rfl (by omega) (.slice A4 bs4.length c4) bs4.length (bs4.map bv) rfl h4.own.drew B A d.length c (d.map bv) rfl (ic4.dr.drew) (one_bv d) (by simp only [maxLen]; omega) (by omega) hs4 ?_; intro v5 w5 hown5 hg5; obtain ⟨A5, c5, rfl⟩ := own_slice hown5; have hc5 : w5.cell? ⟨bw, 1, none⟩ = some _ := WS.cell2 h4 (Below.refl _ _).drew hg5; have hf5 : w5.frozen? ⟨bw, 1, none⟩ = false := WS.froz2 h4 (Below.refl _ _).drew hg5)
              all_goals
                have R := h4.push (Below.refl _ _).drew (l := d) rfl hown5 hg5
                have a5' := a4'.trans R.2 hle4 hw.own (own_not_bw hw.blk hw.own)
                have h5 := R.1
                have hc6 := Blk.cell (t := 41) h5.blk 1
                clear R hown5 hg5 hc5 hf5 hc4 hf4
                generalize w5.setCell ⟨bw, 1, none⟩ (.slice A5 (bs4.length + d.length) c5) = w6 at *
                have hc6' : w6.cell? ⟨bw, 1, none⟩ = some (.slice A5 (bs4.length + d.length) c5) := hc6
                clear hc6
                by_cases h65 : bs4.length + d.length ≤ 65536
                · have h65z : (bs4.length : Int) + (d.length : Int) ≤ 65536 := by omega
                  go_wp2_with (go_at_call 16; refine (must_yes _).mono ?_; rintro e w' ⟨rfl, rfl⟩)
                  go_end0
                  exact end_good (HQ.out.trans (if_pos (by rw [List.length_append]; exact h65))) h5 a5'
                · have h65z : ¬ (bs4.length : Int) + (d.length : Int) ≤ 65536 := by omega
                  go_wp2_with (go_at_call 16; refine (must_no _).mono ?_; rintro e w' ⟨rfl, rfl⟩)
                  exact ⟨rfl, end_bad (HQ.out.trans (if_neg (by rw [List.length_append]; exact h65))) a5'⟩
          · have h64z : ¬ (d.length : Int) ≤ 65536 := by omega
            have hdec : decide ((d.length : Int) ≤ 65536) = false := decide_eq_false h64z
            go_wp2_with (first | (go_at_fn f; refine (HF.out _ hb2 hp2).mono ?_; rintro e W3 ⟨rfl, hb3⟩; have ic3 := ic2.below (hb3.mono (Nat.le_trans hB (Nat.le_trans hs hb2.size))); have g1 := ic3.f1; have g2 := ic3.f2; have g3 := ic3.f3; have q1' := (Below.cell (p := ⟨sg, 1, none⟩) hb3 (Blk.lt hsg)).trans q1; have q2' := (Below.cell (p := ⟨sg, 2, none⟩) hb3 (Blk.lt hsg)).trans q2; have q0' := (Below.cell (p := ⟨sg, 0, none⟩) hb3 (Blk.lt hsg)).trans q0) | (go_at_call_of 16 (Value.bool true); refine (must_yes _).mono ?_; rintro e w' ⟨rfl, rfl⟩) | (go_at_call_of 16 (Value.bool false); refine (must_no _).mono ?_; rintro e w' ⟨rfl, rfl⟩))
            exact ⟨rfl, end_bad (HP.out.trans (if_neg h64)) (ha2.then_below hw.own hb3)⟩
        · have e1 : ((n : Int) == 0) = true := by simp [hn0]
          have e2 : ((l.length : Int) == 0) = false := by simp; exact fun h => hl0 (by rw [h]; rfl)
          have HNO := Lib.hid (pItem_bad (vf := vf) (k := k) (n := n) (d := d) (l := l) (deep := deep) (left := left) (bs := bs) (by rw [HN.out]; simp [hn0]; exact fun h => hl0 (by rw [h]; rfl)))
          clear hk hn0 hl0
          go_wp2_with (first | (go_at_fn f; refine (HF.out _ hb2 hp2).mono ?_; rintro e W3 ⟨rfl, hb3⟩; have ic3 := ic2.below (hb3.mono (Nat.le_trans hB (Nat.le_trans hs hb2.size))); have g1 := ic3.f1; have g2 := ic3.f2; have g3 := ic3.f3; have q1' := (Below.cell (p := ⟨sg, 1, none⟩) hb3 (Blk.lt hsg)).trans q1; have q2' := (Below.cell (p := ⟨sg, 2, none⟩) hb3 (Blk.lt hsg)).trans q2; have q0' := (Below.cell (p := ⟨sg, 0, none⟩) hb3 (Blk.lt hsg)).trans q0) | (go_at_call 16; refine (must_no _).mono ?_; rintro e w' ⟨rfl, rfl⟩))
          exact ⟨rfl, end_bad HNO.out (ha2.then_below hw.own hb3)⟩
      · have e1 : ((n : Int) == 0) = false := by simp [hn0]
        have HNO := Lib.hid (pItem_bad (vf := vf) (k := k) (n := n) (d := d) (l := l) (deep := deep) (left := left) (bs := bs) (by rw [HN.out]; simp [hn0]))
        clear hk hn0
        go_wp2_with (first | (go_at_fn f; refine (HF.out _ hb2 hp2).mono ?_; rintro e W3 ⟨rfl, hb3⟩; have ic3 := ic2.below (hb3.mono (Nat.le_trans hB (Nat.le_trans hs hb2.size))); have g1 := ic3.f1; have g2 := ic3.f2; have g3 := ic3.f3; have q1' := (Below.cell (p := ⟨sg, 1, none⟩) hb3 (Blk.lt hsg)).trans q1; have q2' := (Below.cell (p := ⟨sg, 2, none⟩) hb3 (Blk.lt hsg)).trans q2; have q0' := (Below.cell (p := ⟨sg, 0, none⟩) hb3 (Blk.lt hsg)).trans q0) | (go_at_call 16; refine (must_no _).mono ?_; rintro e w' ⟨rfl, rfl⟩))
        exact ⟨rfl, end_bad HNO.out (ha2.then_below hw.own hb3)⟩

end Go.Proofs.YtonkkojankmhbaaDoor
