import Derived.Test.YtonkkojankmhbaaDoorItB
namespace Go.Proofs.YtonkkojankmhbaaDoor
open Go.RowKit
open Wp (It)

set_option maxRecDepth 100000 in
set_option maxHeartbeats 8000000 in
theorem item_list (vf : List UInt8 → Bool) (base bw g o B : Nat) (W : World) (left : Int) (deep : Nat) (v : Value) (bs : List UInt8) (hw : WS W base bw left v bs) (hl : 1 ≤ left) (hl2 : left ≤ 4096) (hd : deep ≤ 16) (hB : B ≤ base) (hs : base ≤ W.heap.size) (hbs : bs.length ≤ 65800)
    (k : Int) (n : Nat) (d : List UInt8) (l : List It) (hp : PtrIt W B (.mk k n d l) g o) (f : Nat) (j : Nat) (fb : Bool) (hk : k = 4 ∨ k = 5) (hfind : Instr.findNow (.int .i64) (.int .i64 k) shapesMap.toList 0 = some (some (j, shp false false true f)))
    (hent : Enters Tryd.prog f) (hfit : ∀ Wx, Below base W Wx → PtrIt Wx B (.mk k n d l) g o → Calls Tryd.prog f #[.pointer (some ⟨g, o, none⟩)] Wx fun e w' => e = .returned (.bool fb) ∧ Below Wx.heap.size Wx w')
    (hfine : Wp.fine vf k n d l = (fb && (false || n == 0) && (false || d.length == 0) && (true || l.length == 0)))
    (hlist : ∀ (Wx : World) (vx : Value), WS Wx base bw (left - 1) vx bs → Below base W Wx → Calls Tryd.prog 18 #[.pointer (some ⟨bw, 0, none⟩), .pointer (some ⟨g, o, none⟩), .int .i64 deep] Wx
      (ItemPost Wx base bw vx bs (Wp.pList vf (k == 5) 0 l (deep + 1) (left - 1) (bs ++ Wp.headB k.toNat (if k == 5 then l.length / 2 else l.length)) []))) :
    Calls Tryd.prog 10 #[.pointer (some ⟨bw, 0, none⟩), .pointer (some ⟨g, o, none⟩), .int .i64 deep] W (ItemPost W base bw v bs (Wp.pItem vf (.mk k n d l) deep left bs)) := by
  have hentf : ∀ args w, (callFunc f args).run Tryd.prog w = .ok (.enter f args) w := hent
  have HF := Lib.hid hfit
  have HN := Lib.hid hfine
  have HL := Lib.hid hlist
  clear hent hfit hfine hlist
  have hc0 : W.cell? ⟨bw, 0, none⟩ = some (.int .i64 left) := Blk.cell (t := 41) hw.blk 0
  have hf0 : W.frozen? ⟨bw, 0, none⟩ = false := Blk.frozen hw.blk 0
  obtain ⟨A, c, A2, c2, cells, ic⟩ := hp.cells
  have hdz : (deep : Int) ≤ 16 := by omega
  have hb1 : Below base W (W.setCell ⟨bw, 0, none⟩ (.int .i64 (left - 1))) := (Below.refl _ _).setCell hw.hb _
  have ic1 := ic.below (hb1.mono hB)
  have hp1 := hp.below (hb1.mono hB)
  have hw1 : WS (W.setCell ⟨bw, 0, none⟩ (.int .i64 (left - 1))) base bw (left - 1) v bs := (hw.setLeft _).1
  have ha1 : Adv W bw v bs.length (W.setCell ⟨bw, 0, none⟩ (.int .i64 (left - 1))) v := (hw.setLeft _).2
  go_enter Tryd.func10, Tryd.ntmps10
  go_wp2_with (go_at_call 14; refine (one_yes _ _ _ _ _ hc0 hf0 hl hl2 hdz).mono ?_; rintro e w' ⟨rfl, rfl⟩)
  have h0 := ic1.f0
  generalize W.setCell ⟨bw, 0, none⟩ (.int .i64 (left - 1)) = W1 at *
  have hgs : g < W1.heap.size := by have := hb1.size; have := Nat.lt_of_lt_of_le ic.gb (Nat.le_trans hB hs); omega
  have h0a : ∀ x, (W1.alloc x).cell? ⟨g, o, none⟩ = some (.int .i64 k) := fun x => (World.cell?_alloc_past _ _ _ hgs).trans h0
  have h0b : ∀ x y, ((W1.alloc x).alloc y).cell? ⟨g, o, none⟩ = some (.int .i64 k) := fun x y => (World.cell?_alloc_past _ _ _ (by simp; omega)).trans (h0a x)
  have L1 := run_find_shape (W1.alloc (.map shapesMap 7)).drew W1.heap.size k (.agg #[.bool false, .bool false, .bool true, .func (.func f) #[] #[]]) shapesMap 7 j (heap_alloc_new W1 _) hfind
  have L2 := fun (x : Obj) => run_find_shape ((W1.alloc (.map shapesMap 7)).alloc x).drew W1.heap.size k (.agg #[.bool false, .bool false, .bool true, .func (.func f) #[] #[]]) shapesMap 7 j ((heap_alloc_old (W1.alloc (.map shapesMap 7)) _ (by simp)).trans (heap_alloc_new W1 _)) hfind
  have L3 := fun (x : Obj) => run_find_shape ((W1.alloc x).alloc (.map shapesMap 7)).drew (W1.heap.size + 1) k (.agg #[.bool false, .bool false, .bool true, .func (.func f) #[] #[]]) shapesMap 7 j (heap_alloc_new2 W1 x _) hfind
  clear hfind
  go_upto_region 1 with fail
  go_cut [6, 7] (fun s6 s7 wx => ∃ sg : Nat, s6 = .pointer (some ⟨sg, 0, none⟩) ∧ s7 = .bool true ∧ wx.heap[sg]? = some (.cells #[.bool false, .bool false, .bool true, .func (.func f) #[] #[]] 53 (0, 0)) ∧ W1.heap.size ≤ sg ∧ Below W1.heap.size W1 wx)
  case first =>
    go_region_with (go_at_call 15; refine (shapes_any _).mono ?_; rintro e w' ⟨rfl, rfl⟩)
    all_goals (go_wp2_with fail; go_meet; first | exact ⟨W1.heap.size, rfl, rfl, cut_old W1 _ _, Nat.le_refl _, cut_below W1 _ _⟩ | exact ⟨W1.heap.size + 1, rfl, rfl, heap_alloc_new2 W1 _ _, Nat.le_succ _, cut_below W1 _ _⟩)
  case rest =>
    obtain ⟨sg, rfl, rfl, hsg, hsz, hbc⟩ := hcut
    clear L1 L2 L3 h0a h0b h0
    have hw2 := hw1.below hbc
    have ic2 := ic1.below (hbc.mono (Nat.le_trans hB (Nat.le_trans hs hb1.size)))
    have hp2 := hp1.below (hbc.mono (Nat.le_trans hB (Nat.le_trans hs hb1.size)))
    have q0 : wc.cell? ⟨sg, 0, none⟩ = some (.bool false) := Blk.cell (t := 53) hsg 0
    have q1 : wc.cell? ⟨sg, 1, none⟩ = some (.bool false) := Blk.cell (t := 53) hsg 1
    have q2 : wc.cell? ⟨sg, 2, none⟩ = some (.bool true) := Blk.cell (t := 53) hsg 2
    have q3 : wc.cell? ⟨sg, 3, none⟩ = some (.func (.func f) #[] #[]) := Blk.cell (t := 53) hsg 3
    have ha2 : Adv W bw v bs.length wc v := ha1.then_below hw.own hbc
    have hb2 : Below base W wc := hb1.trans (hbc.mono (Nat.le_trans hs hb1.size))
    have HK := Lib.hid hk
    cases fb with
    | false =>
      have HNO := Lib.hid (pItem_bad (vf := vf) (k := k) (n := n) (d := d) (l := l) (deep := deep) (left := left) (bs := bs) (by rw [HN.out]; rfl))
      clear hk
      go_wp2_with (first | (go_at_fn f; refine (HF.out _ hb2 hp2).mono ?_; rintro e W3 ⟨rfl, hb3⟩) | (go_at_call 16; refine (must_no _).mono ?_; rintro e w' ⟨rfl, rfl⟩))
      exact ⟨rfl, end_bad HNO.out (ha2.then_below hw.own hb3)⟩
    | true =>
      by_cases hn0 : n = 0
      · by_cases hd0 : d.length = 0
        · have e1 : ((n : Int) == 0) = true := by simp [hn0]
          have e2 : ((d.length : Int) == 0) = true := by simp [hd0]
          have hok : Wp.fine vf k n d l = true := by rw [HN.out, hn0, hd0]; rfl
          have HP := Lib.hid (pItem_list (bs := bs) hok hl hd hk)
          clear hn0 hd0 hok hk
          have HPo := HP.out
          clear HP
          cases hr : Wp.pList vf (k == 5) 0 l (deep + 1) (left - 1) (bs ++ Wp.headB k.toNat (if k == 5 then l.length / 2 else l.length)) [] with
          | none =>
            rw [hr] at HPo
            have HQ := Lib.hid HPo
            have HR := Lib.hid hr
            clear hr HPo
            go_wp2_with (first | (go_at_fn f; refine (HF.out _ hb2 hp2).mono ?_; rintro e W3 ⟨rfl, hb3⟩; have ic3 := ic2.below (hb3.mono (Nat.le_trans hB (Nat.le_trans hs hb2.size))); have g1 := ic3.f1; have g2 := ic3.f2; have g3 := ic3.f3; have q1' := (Below.cell (p := ⟨sg, 1, none⟩) hb3 (Blk.lt hsg)).trans q1; have q2' := (Below.cell (p := ⟨sg, 2, none⟩) hb3 (Blk.lt hsg)).trans q2; have q0' := (Below.cell (p := ⟨sg, 0, none⟩) hb3 (Blk.lt hsg)).trans q0) | (go_at_call 16; refine (must_yes _).mono ?_; rintro e w' ⟨rfl, rfl⟩) | (go_at_call 18; refine (HL.out _ v (hw2.below hb3) (hb2.trans (hb3.mono (Nat.le_trans hs hb2.size)))).mono ?_; rw [HR.out]; rintro e W4 ⟨rfl, v4, b4⟩))
            exact ⟨rfl, end_bad HQ.out ((ha2.then_below hw.own hb3).trans b4 (Nat.le_refl _) hw.own (own_not_bw hw.blk hw.own))⟩
          | some r =>
            obtain ⟨left4, bs4⟩ := r
            rw [hr] at HPo
            have HQ := Lib.hid HPo
            have HR := Lib.hid hr
            clear hr HPo
            go_upto_region 10 with (first | (go_at_fn f; refine (HF.out _ hb2 hp2).mono ?_; rintro e W3 ⟨rfl, hb3⟩; have ic3 := ic2.below (hb3.mono (Nat.le_trans hB (Nat.le_trans hs hb2.size))); have g1 := ic3.f1; have g2 := ic3.f2; have g3 := ic3.f3; have q1' := (Below.cell (p := ⟨sg, 1, none⟩) hb3 (Blk.lt hsg)).trans q1; have q2' := (Below.cell (p := ⟨sg, 2, none⟩) hb3 (Blk.lt hsg)).trans q2; have q0' := (Below.cell (p := ⟨sg, 0, none⟩) hb3 (Blk.lt hsg)).trans q0) | (go_at_call 16; refine (must_yes _).mono ?_; rintro e w' ⟨rfl, rfl⟩) | (go_at_call 18; refine (HL.out _ v (hw2.below hb3) (hb2.trans (hb3.mono (Nat.le_trans hs hb2.size)))).mono ?_; rw [HR.out]; rintro e W4 ⟨rfl, v4, h4, a4⟩))
            have a4' := (ha2.then_below hw.own hb3).trans a4 (Nat.le_refl _) hw.own (own_not_bw hw.blk hw.own)
            obtain ⟨A4, c4, rfl⟩ := own_slice h4.own
            have hc4 : W4.cell? ⟨bw, 1, none⟩ = some (.slice A4 bs4.length c4) := Blk.cell (t := 41) h4.blk 1
            by_cases h65 : bs4.length ≤ 65536
            · have h65z : (bs4.length : Int) ≤ 65536 := by omega
              go_wp2_with (go_at_call 16; refine (must_yes _).mono ?_; rintro e w' ⟨rfl, rfl⟩)
              go_end0
              exact end_good (HQ.out.trans (if_pos h65)) h4 a4'
            · have h65z : ¬ (bs4.length : Int) ≤ 65536 := by omega
              go_wp2_with (go_at_call 16; refine (must_no _).mono ?_; rintro e w' ⟨rfl, rfl⟩)
              exact ⟨rfl, end_bad (HQ.out.trans (if_neg h65)) a4'⟩
        · have e1 : ((n : Int) == 0) = true := by simp [hn0]
          have e2 : ((d.length : Int) == 0) = false := by simp; exact fun h => hd0 (by rw [h]; rfl)
          have HNO := Lib.hid (pItem_bad (vf := vf) (k := k) (n := n) (d := d) (l := l) (deep := deep) (left := left) (bs := bs) (by rw [HN.out]; simp [hn0]; exact fun h => hd0 (by rw [h]; rfl)))
          clear hk hn0 hd0
          go_wp2_with (first | (go_at_fn f; refine (HF.out _ hb2 hp2).mono ?_; rintro e W3 ⟨rfl, hb3⟩; have ic3 := ic2.below (hb3.mono (Nat.le_trans hB (Nat.le_trans hs hb2.size))); have g1 := ic3.f1; have g2 := ic3.f2; have g3 := ic3.f3; have q1' := (Below.cell (p := ⟨sg, 1, none⟩) hb3 (Blk.lt hsg)).trans q1; have q2' := (Below.cell (p := ⟨sg, 2, none⟩) hb3 (Blk.lt hsg)).trans q2; have q0' := (Below.cell (p := ⟨sg, 0, none⟩) hb3 (Blk.lt hsg)).trans q0) | (go_at_call 16; refine (must_no _).mono ?_; rintro e w' ⟨rfl, rfl⟩))
          exact ⟨rfl, end_bad HNO.out (ha2.then_below hw.own hb3)⟩
      · have e1 : ((n : Int) == 0) = false := by simp [hn0]
        have HNO := Lib.hid (pItem_bad (vf := vf) (k := k) (n := n) (d := d) (l := l) (deep := deep) (left := left) (bs := bs) (by rw [HN.out]; simp [hn0]))
        clear hk hn0
        go_wp2_with (first | (go_at_fn f; refine (HF.out _ hb2 hp2).mono ?_; rintro e W3 ⟨rfl, hb3⟩; have ic3 := ic2.below (hb3.mono (Nat.le_trans hB (Nat.le_trans hs hb2.size))); have g1 := ic3.f1; have g2 := ic3.f2; have g3 := ic3.f3; have q1' := (Below.cell (p := ⟨sg, 1, none⟩) hb3 (Blk.lt hsg)).trans q1; have q2' := (Below.cell (p := ⟨sg, 2, none⟩) hb3 (Blk.lt hsg)).trans q2; have q0' := (Below.cell (p := ⟨sg, 0, none⟩) hb3 (Blk.lt hsg)).trans q0) | (go_at_call 16; refine (must_no _).mono ?_; rintro e w' ⟨rfl, rfl⟩))
        exact ⟨rfl, end_bad HNO.out (ha2.then_below hw.own hb3)⟩

end Go.Proofs.YtonkkojankmhbaaDoor
