import Derived.Test.YtonkkojankmhbaaDoorItB
namespace Go.Proofs.YtonkkojankmhbaaDoor
open Go.RowKit
open Wp (It)

set_option maxRecDepth 100000 in
set_option maxHeartbeats 8000000 in
theorem item_none (vf : List UInt8 → Bool) (base bw g o B : Nat) (W : World) (left : Int) (deep : Nat) (v : Value) (bs : List UInt8) (hw : WS W base bw left v bs) (hl : 1 ≤ left) (hl2 : left ≤ 4096) (hd : deep ≤ 16) (hB : B ≤ base) (hs : base ≤ W.heap.size)
    (k : Int) (n : Nat) (d : List UInt8) (l : List It) (hp : PtrIt W B (.mk k n d l) g o) (hfind : Instr.findNow (.int .i64) (.int .i64 k) shapesMap.toList 0 = some none) (hfine : Wp.fine vf k n d l = false) :
    Calls Tryd.prog 10 #[.pointer (some ⟨bw, 0, none⟩), .pointer (some ⟨g, o, none⟩), .int .i64 deep] W (ItemPost W base bw v bs (Wp.pItem vf (.mk k n d l) deep left bs)) := by
  have HNO := Lib.hid (pItem_bad (deep := deep) (left := left) (bs := bs) hfine)
  clear hfine
  have hc0 : W.cell? ⟨bw, 0, none⟩ = some (.int .i64 left) := Blk.cell (t := 41) hw.blk 0
  have hf0 : W.frozen? ⟨bw, 0, none⟩ = false := Blk.frozen hw.blk 0
  obtain ⟨A, c, A2, c2, cells, ic⟩ := hp.cells
  have hdz : (deep : Int) ≤ 16 := by omega
  have hb1 : Below base W (W.setCell ⟨bw, 0, none⟩ (.int .i64 (left - 1))) := (Below.refl _ _).setCell hw.hb _
  have ic1 := ic.below (hb1.mono hB)
  have ha1 : Adv W bw v bs.length (W.setCell ⟨bw, 0, none⟩ (.int .i64 (left - 1))) v := (hw.setLeft _).2
  go_enter Tryd.func10, Tryd.ntmps10
  go_wp2_with (go_at_call 14; refine (one_yes _ _ _ _ _ hc0 hf0 hl hl2 hdz).mono ?_; rintro e w' ⟨rfl, rfl⟩)
  have h0 := ic1.f0
  generalize W.setCell ⟨bw, 0, none⟩ (.int .i64 (left - 1)) = W1 at *
  have hgs : g < W1.heap.size := by have := hb1.size; have := Nat.lt_of_lt_of_le ic.gb (Nat.le_trans hB hs); omega
  have h0a : ∀ x, (W1.alloc x).cell? ⟨g, o, none⟩ = some (.int .i64 k) := fun x => (World.cell?_alloc_past _ _ _ hgs).trans h0
  have h0b : ∀ x y, ((W1.alloc x).alloc y).cell? ⟨g, o, none⟩ = some (.int .i64 k) := fun x y => (World.cell?_alloc_past _ _ _ (by simp; omega)).trans (h0a x)
  have L1 := run_find_none (W1.alloc (.map shapesMap 7)).drew W1.heap.size k shapesMap 7 (heap_alloc_new W1 _) hfind
  have L2 := fun (x : Obj) => run_find_none ((W1.alloc (.map shapesMap 7)).alloc x).drew W1.heap.size k shapesMap 7 ((heap_alloc_old (W1.alloc (.map shapesMap 7)) _ (by simp)).trans (heap_alloc_new W1 _)) hfind
  have L3 := fun (x : Obj) => run_find_none ((W1.alloc x).alloc (.map shapesMap 7)).drew (W1.heap.size + 1) k shapesMap 7 (heap_alloc_new2 W1 x _) hfind
  clear hfind
  go_upto_region 1 with fail
  go_cut [6, 7] (fun s6 s7 wx => ∃ sg : Nat, s6 = .pointer (some ⟨sg, 0, none⟩) ∧ s7 = .bool false ∧ Below W1.heap.size W1 wx)
  case first =>
    go_region_with (go_at_call 15; refine (shapes_any _).mono ?_; rintro e w' ⟨rfl, rfl⟩)
    all_goals (go_wp2_with fail; go_meet; exact ⟨_, rfl, rfl, cut_below W1 _ _⟩)
  case rest =>
    obtain ⟨sg, rfl, rfl, hbc⟩ := hcut
    have hb2 : Below base W wc := hb1.trans (hbc.mono (Nat.le_trans hs hb1.size))
    clear L1 L2 L3 h0a h0b h0
    go_wp2_with (go_at_call 16; refine (must_no _).mono ?_; rintro e w' ⟨rfl, rfl⟩)
    exact ⟨rfl, end_bad HNO.out (ha1.then_below hw.own hbc)⟩

end Go.Proofs.YtonkkojankmhbaaDoor
