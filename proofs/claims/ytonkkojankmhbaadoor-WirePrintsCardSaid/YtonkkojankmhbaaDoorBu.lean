import Derived.Test.YtonkkojankmhbaaDoorSm
import Derived.Deep.DeepCutAuto
import Derived.Deep.LoopGhost
import Derived.Laws.IdiomStrings
namespace Go.Proofs.YtonkkojankmhbaaDoor
open Go.RowKit
open Wp (It)

/-- how many of the items ahead become its items -/
def cnt (m : Int) (len : Nat) : Nat := min ((if m < 0 then -(m + 1) else m) % 9).toNat len
def stepB (st : List It) (x : Nd) : List It := st.take (st.length - cnt x.m st.length) ++ [.mk x.k x.n x.s.data.toList (st.drop (st.length - cnt x.m st.length))]
def builtL (ns : List Nd) : List It := ns.foldl stepB []
def builtIt (ns : List Nd) : It := match (builtL ns).getLast? with
  | none => .mk 0 0 [] []
  | some i => i
theorem builtL_snoc (ns : List Nd) (q : Nat) (h : q < ns.length) : builtL (ns.take (q + 1)) = stepB (builtL (ns.take q)) ns[q] := by
  unfold builtL
  rw [List.take_succ_eq_append_getElem h, List.foldl_append]
  rfl
theorem builtL_len (ns : List Nd) (q : Nat) : (builtL (ns.take q)).length ≤ q := by
  induction q with
  | zero => simp [builtL]
  | succ q ih =>
    by_cases h : q < ns.length
    · rw [builtL_snoc ns q h]
      simp only [stepB, List.length_append, List.length_take, List.length_cons, List.length_nil]
      omega
    · rw [List.take_of_length_le (by omega)]
      rw [List.take_of_length_le (by omega)] at ih
      omega

theorem info31 : (Tryd.prog.info? 31).map (fun i => (i.zero, i.size, i.bytes)) = some (some (.agg #[.int .i64 0, .int .u64 0, .slice none 0 0, .slice none 0 0]), 4, 64) := by kernel_rfl

/-- a new item, its list to come -/
def NewIt (wc : World) (x : Nd) (v : Value) (wx : World) : Prop := ∃ gv A4 c4, v = .pointer (some ⟨gv, 0, none⟩) ∧ Blk wx gv 31 #[.int .i64 x.k, .int .u64 (x.n : Int), .slice A4 x.s.size c4, .slice none 0 0] ∧ wc.heap.size ≤ gv ∧ gv < wx.heap.size ∧
  Reads wx wx.heap.size 1 A4 x.s.size (x.s.data.toList.map bv) ∧ (∀ a, A4 = some a → a.block ≠ gv ∧ wc.heap.size ≤ a.block) ∧ x.s.size ≤ c4 ∧ c4 ≤ 9223372036854775807 ∧ Below wc.heap.size wc wx
theorem row_cell (s : ByteArray) (cap j : Nat) (u : Value) (h : (s.data.toList.map bv)[j]? = some u) : (bytesRow s cap)[j]? = some u := by
  have hj : j < (s.data.toList.map bv).length := (List.getElem?_eq_some_iff.1 h).1
  simp only [List.length_map, Array.length_toList] at hj
  rw [List.getElem?_map] at h
  unfold bytesRow
  rw [Array.getElem?_append_left (by simpa using hj), Array.getElem?_map, ← Array.getElem?_toList]
  simpa [bv] using h
theorem reads_row {w : World} {s : ByteArray} {cap g : Nat} {f : Nat × Nat} (hb : w.heap[g]? = some (.cells (bytesRow s cap) 5 f)) (hg : g < w.heap.size) : Reads w w.heap.size 1 (some ⟨g, 0, none⟩) s.size (s.data.toList.map bv) :=
  ⟨by rw [List.length_map, Array.length_toList, Nat.mul_one]; rfl, fun _ => ⟨_, rfl, hg, fun j u hu => by
    rw [add0]
    exact (cell_of_row w g j (bytesRow s cap) 5 f hb).trans (row_cell s cap j u hu)⟩⟩
theorem new1 (wc : World) (x : Nd) (cap : Nat) (f : Nat × Nat) (h1 : x.s.size ≤ cap) (h2 : cap ≤ 9223372036854775807) :
    NewIt wc x (.pointer (some ⟨wc.heap.size + 1, 0, none⟩)) ((wc.alloc (.cells (bytesRow x.s cap) 5 f)).alloc (.cells #[.int .i64 x.k, .int .u64 (x.n : Int), .slice (some ⟨wc.heap.size, 0, none⟩) x.s.size cap, .slice none 0 0] 31)).drew.drew := by
  refine ⟨wc.heap.size + 1, some ⟨wc.heap.size, 0, none⟩, cap, rfl, heap_alloc_new2 wc _ _, by omega, by simp, ?_, fun a h => by cases h; exact ⟨by show wc.heap.size ≠ wc.heap.size + 1; omega, Nat.le_refl _⟩, h1, h2, ?_⟩
  · exact reads_row (cut_old wc _ _) (by simp; omega)
  · exact (cut_below wc _ _).drew
theorem new2 (wc : World) (x : Nd) (cap : Nat) (f : Nat × Nat) (h1 : x.s.size ≤ cap) (h2 : cap ≤ 9223372036854775807) :
    NewIt wc x (.pointer (some ⟨wc.heap.size, 0, none⟩)) ((wc.alloc (.cells #[.int .i64 x.k, .int .u64 (x.n : Int), .slice (some ⟨wc.heap.size + 1, 0, none⟩) x.s.size cap, .slice none 0 0] 31)).alloc (.cells (bytesRow x.s cap) 5 f)).drew.drew := by
  refine ⟨wc.heap.size, some ⟨wc.heap.size + 1, 0, none⟩, cap, rfl, cut_old wc _ _, by omega, by simp; omega, ?_, fun a h => by cases h; exact ⟨by show wc.heap.size + 1 ≠ wc.heap.size; omega, by show wc.heap.size ≤ wc.heap.size + 1; omega⟩, h1, h2, ?_⟩
  · exact reads_row (heap_alloc_new2 wc _ _) (by simp)
  · exact (cut_below wc _ _).drew
theorem cap_ge (w : World) (s : ByteArray) (old e : Nat) : s.size ≤ grownCap w s.size old e := grownCap_ge w s.size old e
theorem cap_le (w : World) (s : ByteArray) (old e : Nat) (h : s.size ≤ 9223372036854775807) : grownCap w s.size old e ≤ 9223372036854775807 := by
  have := grownCap_le_maxLen w s.size old e (by simp only [maxLen]; omega)
  simp only [maxLen] at this
  omega

theorem slice_from (A3 : Option Addr) (len c3 a b : Nat) (h : a + b = len) (W : World) : (Instr.slice 29 (.slice A3 len c3) (some (.int .i64 (a : Int))) none none).run Tryd.prog W = .ok (.slice (if c3 = a then A3 else A3.map (·.add (a * 4))) b (c3 - a)) W := by
  have h1 : (Instr.slice 29 (.slice A3 len c3) (some (.int .i64 (a : Int))) none none).run Tryd.prog W = ((sizeOf (Tryd.prog.elem 29)).run Tryd.prog W).andThen fun s w => .ok (sliced A3 (a : Int).toNat len c3 s) w :=
    run_slice_l W 29 A3 len c3 (by kernel_rfl) .i64 (a : Int) (by omega) (by omega)
  have h2 : (sizeOf (Tryd.prog.elem 29)).run Tryd.prog W = .ok 4 W := by kernel_rfl
  rw [h1, h2]
  simp only [Result.andThen, sliced, Int.toNat_natCast]
  rw [show len - a = b by omega]
theorem grown_below {B : Nat} {w w' : World} {row : Option Nat} (h : w.grownBy w' row) (hB : B ≤ w.heap.size) (hr : ∀ g, row = some g → B ≤ g) : Below B w w' :=
  ⟨h.os, h.tape, h.output, h.size, fun k hk => h.block k (by omega) (fun e => by have := hr _ e.symm; omega)⟩
theorem reads_far {w : World} {g o n size : Nat} {A : Option Addr} {xs : List Value} {v : Value} (h : Reads w w.heap.size size A n xs) (hne : ∀ a, A = some a → a.block ≠ g) : Reads (w.setCell ⟨g, o, none⟩ v) (w.setCell ⟨g, o, none⟩ v).heap.size size A n xs :=
  ⟨h.1, fun hn => by
    obtain ⟨ad, e, hb, hc⟩ := h.2 hn
    refine ⟨ad, e, by simpa [World.setCell] using hb, fun j u hu => ?_⟩
    refine Eq.trans (World.cell?_setCell_other w ⟨g, o, none⟩ (ad.add j) v ?_) (hc j u hu)
    intro e2
    have h1 := hne ad e
    apply h1
    rw [← block_of_add ad j, ← e2]⟩
theorem Reads.take {w : World} {B size n k : Nat} {A : Option Addr} {xs : List Value} (h : Reads w B size A n xs) (hk : k ≤ n) : Reads w B size A k (xs.take (k * size)) :=
  ⟨by rw [List.length_take, h.1]; exact Nat.min_eq_left (Nat.mul_le_mul_right _ hk), fun hn => by
    obtain ⟨ad, e, hb, hc⟩ := h.2 (by omega)
    refine ⟨ad, e, hb, fun j u hu => hc j u ?_⟩
    rw [List.getElem?_take] at hu
    split at hu
    · exact hu
    · cases hu⟩
theorem own_e (w : World) (base N : Nat) (h : N = w.heap.size) (hb : base ≤ w.heap.size) : (w.alloc (.cells #[] 31)).ownsRow base 31 4 (.slice (some ⟨N, 0, none⟩) 0 0) 0 [] := by
  subst h
  exact World.ownsRow_made w #[] 0 hb (Nat.zero_le _) rfl
theorem reads_new4 (w : World) (M : Nat) (hM : M = w.heap.size) (c0 c1 c2 c3 : Value) : Reads (w.alloc (.cells #[c0, c1, c2, c3] 31)) (M + 1) 4 (some ⟨M, 0, none⟩) 1 [c0, c1, c2, c3] := by
  subst hM
  refine ⟨rfl, fun _ => ⟨_, rfl, Nat.lt_succ_self _, fun j u hu => ?_⟩⟩
  rw [add0]
  exact (Blk.cell (t := 31) (Blk.new w 31 #[c0, c1, c2, c3]) j).trans (by simpa using hu)
theorem reads_grew {w w' : World} {v v' : Value} (hg : Grew w v w' v') {M : Nat} {c0 c1 c2 c3 : Value} (hM : w.heap[M]? = some (.cells #[c0, c1, c2, c3] 31 (0, 0))) (hne : v.ownBlock ≠ some M) : Reads w' (w'.heap.size + 1) 4 (some ⟨M, 0, none⟩) 1 [c0, c1, c2, c3] := by
  have hb : Blk w' M 31 #[c0, c1, c2, c3] := Blk.grown (w := w) hM hg.gb (fun e => hne e.symm)
  refine ⟨rfl, fun _ => ⟨_, rfl, Nat.lt_succ_of_lt hb.lt, fun j u hu => ?_⟩⟩
  rw [add0]
  exact (Blk.cell (t := 31) hb j).trans (by simpa using hu)
theorem grew_below {B : Nat} {w0 w w' : World} {v v' : Value} (h0 : Below B w0 w) (hg : Grew w v w' v') (hB : B ≤ w.heap.size) (hr : ∀ g, v.ownBlock = some g → B ≤ g) : Below B w0 w' := h0.trans (grown_below hg.gb hB hr)
theorem own_ge {w : World} {base size n : Nat} {e : TypeId} {v : Value} {xs : List Value} (h : w.ownsRow base e size v n xs) : ∀ g, v.ownBlock = some g → base ≤ g := fun g hg => (own_lt h hg).1
mutual
theorem itAt_one {w : World} {B : Nat} : ∀ (i : It) (cs : List Value), ItAt w B i cs → ∀ u ∈ cs, u.oneCell' = true
  | .mk k n d l, cs, h, u, hu => by
    simp only [ItAt] at h
    obtain ⟨A, c, A2, c2, cells, rfl, _⟩ := h
    simp only [List.mem_cons, List.not_mem_nil, or_false] at hu
    rcases hu with rfl | rfl | rfl | rfl <;> rfl
theorem itsAt_one {w : World} {B : Nat} : ∀ (l : List It) (cs : List Value), ItsAt w B l cs → ∀ u ∈ cs, u.oneCell' = true
  | [], cs, h, u, hu => by simp only [ItsAt] at h; subst h; cases hu
  | i :: r, cs, h, u, hu => by
    simp only [ItsAt] at h
    obtain ⟨c, cs', rfl, _, h1, h2⟩ := h
    rcases List.mem_append.1 hu with hu | hu
    · exact itAt_one i c h1 u hu
    · exact itsAt_one r cs' h2 u hu
end

/-- w' holds what w holds below B -/
def Holds (B : Nat) (w w' : World) : Prop := ∀ (p : Addr) (v : Value), p.block < B → w.cell? p = some v → w'.cell? p = some v
theorem Reads.ext {w w' : World} {B size n : Nat} {A : Option Addr} {xs : List Value} (h : Reads w B size A n xs) (hk : Holds B w w') : Reads w' B size A n xs :=
  ⟨h.1, fun hn => by
    obtain ⟨ad, e, hb, hc⟩ := h.2 hn
    exact ⟨ad, e, hb, fun j u hu => hk _ _ (by rw [block_of_add]; exact hb) (hc j u hu)⟩⟩
theorem tabs_ext {w w' : World} {B : Nat} (hB : 2 ≤ B) (h : Lib.Utf8Tabs 0 1 w) (hk : Holds B w w') : Lib.Utf8Tabs 0 1 w' :=
  ⟨fun c hc => hk ⟨0, c, none⟩ _ (by show 0 < B; omega) (h.1 c hc), fun i hi => ⟨hk ⟨1, 2 * i, none⟩ _ (by show 1 < B; omega) (h.2 i hi).1, hk ⟨1, 2 * i + 1, none⟩ _ (by show 1 < B; omega) (h.2 i hi).2⟩⟩
mutual
theorem ItAt.ext {w w' : World} {B : Nat} (hk : Holds B w w') : ∀ (i : It) (cs : List Value), ItAt w B i cs → ItAt w' B i cs
  | .mk k n d l, cs, h => by
    simp only [ItAt] at h ⊢
    obtain ⟨A, c, A2, c2, cells, h1, h2, h3, h4, h5, h6, h7, h8, h9, ha, hb⟩ := h
    exact ⟨A, c, A2, c2, cells, h1, h2.ext hk, h3.ext hk, ItsAt.ext hk l cells h4, h5, h6, h7, h8, h9, ha, tabs_ext ha hb hk⟩
theorem ItsAt.ext {w w' : World} {B : Nat} (hk : Holds B w w') : ∀ (l : List It) (cs : List Value), ItsAt w B l cs → ItsAt w' B l cs
  | [], cs, h => by simp only [ItsAt] at h ⊢; exact h
  | i :: r, cs, h => by
    simp only [ItsAt] at h ⊢
    obtain ⟨c, cs', h1, h2, h3, h4⟩ := h
    exact ⟨c, cs', h1, h2, ItAt.ext hk i c h3, ItsAt.ext hk r cs' h4⟩
end
/-- the world without a block's cells -/
def mask (w : World) (r : Nat) : World := { w with heap := w.heap.setIfInBounds r (.cells #[] 31) }
theorem mask_ne {w : World} {r : Nat} {p : Addr} (h : p.block ≠ r) : (mask w r).cell? p = w.cell? p := by
  refine World.cell?_of_block (a := p) ?_
  show (w.heap.setIfInBounds r _)[p.block]? = _
  rw [Array.getElem?_setIfInBounds_ne (Ne.symm h)]
theorem mask_some {w : World} {r : Nat} {p : Addr} {v : Value} (hr : r < w.heap.size) (h : (mask w r).cell? p = some v) : p.block ≠ r ∧ w.cell? p = some v := by
  have hne : p.block ≠ r := by
    intro e
    have hs := World.cell?_spot h
    obtain ⟨b, o, sp⟩ := p
    simp only at hs e
    subst hs e
    have hb : (mask w b).heap[b]? = some (.cells #[] 31 (0, 0)) := by
      show (w.heap.setIfInBounds b _)[b]? = _
      simp [hr]
    rw [cell_of_row (mask w b) b o #[] 31 (0, 0) hb] at h
    simp at h
  exact ⟨hne, by rw [← mask_ne hne]; exact h⟩
theorem Reads.mask {w : World} {B size n r : Nat} {A : Option Addr} {xs : List Value} (h : Reads w B size A n xs) (hA : ∀ a, A = some a → a.block ≠ r) : Reads (mask w r) B size A n xs :=
  ⟨h.1, fun hn => by
    obtain ⟨ad, e, hb, hc⟩ := h.2 hn
    exact ⟨ad, e, hb, fun j u hu => (mask_ne (by rw [block_of_add]; exact hA ad e)).trans (hc j u hu)⟩⟩
theorem its_take {w : World} {B : Nat} : ∀ (l : List It) (cells : List Value) (a : Nat), ItsAt w B l cells → ItsAt w B (l.take a) (cells.take (a * 4))
  | [], cells, a, h => by simp only [ItsAt] at h; subst h; simp [ItsAt]
  | i :: r, cells, 0, h => by simp [ItsAt]
  | i :: r, cells, a + 1, h => by
    simp only [ItsAt] at h
    obtain ⟨c, cs, rfl, hc, h1, h2⟩ := h
    have e : (c ++ cs).take ((a + 1) * 4) = c ++ cs.take (a * 4) := by
      rw [List.take_append, List.take_of_length_le (by omega), hc]
      congr 2; omega
    rw [e, List.take_succ_cons]
    simp only [ItsAt]
    exact ⟨c, _, rfl, hc, h1, its_take r cs a h2⟩
theorem its_drop {w : World} {B : Nat} : ∀ (l : List It) (cells : List Value) (a : Nat), ItsAt w B l cells → ItsAt w B (l.drop a) (cells.drop (a * 4))
  | [], cells, a, h => by simp only [ItsAt] at h; subst h; simp [ItsAt]
  | i :: r, cells, 0, h => by simpa using h
  | i :: r, cells, a + 1, h => by
    simp only [ItsAt] at h
    obtain ⟨c, cs, rfl, hc, h1, h2⟩ := h
    have e : (c ++ cs).drop ((a + 1) * 4) = cs.drop (a * 4) := by
      rw [List.drop_append, List.drop_of_length_le (by omega), hc, List.nil_append]
      congr 1; omega
    rw [e, List.drop_succ_cons]
    exact its_drop r cs a h2
theorem its_snoc {w : World} {B : Nat} : ∀ (l : List It) (cells : List Value) (i : It) (c : List Value), ItsAt w B l cells → ItAt w B i c → c.length = 4 → ItsAt w B (l ++ [i]) (cells ++ c)
  | [], cells, i, c, h, hi, hc => by simp only [ItsAt] at h; subst h; simp only [List.nil_append, ItsAt]; exact ⟨c, [], by simp, hc, hi, rfl⟩
  | j :: r, cells, i, c, h, hi, hc => by
    simp only [ItsAt] at h
    obtain ⟨d, cs, rfl, hd, h1, h2⟩ := h
    simp only [List.cons_append, ItsAt]
    exact ⟨d, cs ++ c, by rw [List.append_assoc], hd, h1, its_snoc r cs i c h2 hi hc⟩
theorem own_caps {W : World} {base size n : Nat} {e : TypeId} {A : Option Addr} {c : Nat} {xs : List Value} (h : W.ownsRow base e size (.slice A n c) n xs) (hn : 0 < n) : n ≤ c ∧ c ≤ 9223372036854775807 := by
  rcases h.2 with ⟨h1, _⟩ | ⟨g, cap, cur, h1, _, _, h2, h3, _⟩
  · cases h1; omega
  · cases h1; simp only [maxLen] at h3; exact ⟨h2, h3⟩
theorem close_round (r : Nat) (wo wy w9 : World) (st : List It) (cells : List Value) (x : Nd) (a b c4 c6 c9 : Nat) (A4 A6 A9 : Option Addr) (hab : a + b = st.length) (hits : ItsAt (mask wo r) wo.heap.size st cells) (hby : Below wo.heap.size wo wy)
    (hrd4y : Reads wy wy.heap.size 1 A4 x.s.size (x.s.data.toList.map bv)) (hrd6 : Reads wy wy.heap.size 4 A6 b (cells.drop (a * 4))) (hP9 : Below wy.heap.size wy w9)
    (hown9 : w9.ownsRow wy.heap.size 31 4 (.slice A9 (a + 1) c9) (a + 1) (cells.take (a * 4) ++ [.int .i64 x.k, .int .u64 (x.n : Int), .slice A4 x.s.size c4, .slice A6 b c6]))
    (hx1 : x.n < 18446744073709551616) (hxs : x.s.size ≤ 262144) (hc4 : x.s.size ≤ c4) (hc4m : c4 ≤ 9223372036854775807) (hst : st.length ≤ 256) (h2 : 2 ≤ wo.heap.size) (hr : r < wo.heap.size) (h2r : 2 ≤ r) (hT : Lib.Utf8Tabs 0 1 wo) (hA4 : ∀ a, A4 = some a → wo.heap.size ≤ a.block) (hA6 : ∀ a, A6 = some a → wo.heap.size ≤ a.block) :
    a + 1 ≤ c9 ∧ c9 ≤ 9223372036854775807 ∧ Reads (mask w9 r) w9.heap.size 4 A9 (a + 1) (cells.take (a * 4) ++ [.int .i64 x.k, .int .u64 (x.n : Int), .slice A4 x.s.size c4, .slice A6 b c6]) ∧
      ItsAt (mask w9 r) w9.heap.size (st.take a ++ [.mk x.k x.n x.s.data.toList (st.drop a)]) (cells.take (a * 4) ++ [.int .i64 x.k, .int .u64 (x.n : Int), .slice A4 x.s.size c4, .slice A6 b c6]) := by
  obtain ⟨h1, h3⟩ := own_caps hown9 (by omega)
  have hle : wo.heap.size ≤ wy.heap.size := hby.size
  have hle2 : wy.heap.size ≤ w9.heap.size := hP9.size
  have hb9 : Below wo.heap.size wo w9 := hby.trans (hP9.mono hle)
  have hH : Holds wo.heap.size (mask wo r) (mask w9 r) := fun p v hp h => by
    obtain ⟨hne, hs⟩ := mask_some hr h
    rw [mask_ne hne, hb9.cell hp]
    exact hs
  have hi9 : ItsAt (mask w9 r) w9.heap.size st cells := ItsAt.more (by omega) st cells (ItsAt.ext hH st cells hits)
  have hsz : x.s.data.toList.length = x.s.size := by rw [Array.length_toList]; rfl
  have hdl : (st.drop a).length = b := by rw [List.length_drop]; omega
  have hA9 : ∀ ad, A9 = some ad → ad.block ≠ r := fun ad h => by
    subst h
    rcases hown9.2 with ⟨h, _⟩ | ⟨g9, _, _, h, hb, _⟩
    · cases h
    · cases h; show g9 ≠ r; omega
  refine ⟨h1, h3, (Reads.of_own hown9).mask hA9, its_snoc _ _ _ _ (its_take st cells a hi9) ?_ rfl⟩
  simp only [ItAt]
  refine ⟨A4, c4, A6, c6, cells.drop (a * 4), by rw [hsz, hdl], ?_, ?_, its_drop st cells a hi9, hx1, by rw [hsz]; omega, by rw [hdl]; omega, by rw [hsz]; exact hc4, hc4m, by omega, ?_⟩
  · rw [hsz]; exact ((hrd4y.below hP9).more hle2).mask (fun ad h => by have := hA4 ad h; omega)
  · rw [hdl]; exact ((hrd6.below hP9).more hle2).mask (fun ad h => by have := hA6 ad h; omega)
  · have ht9 := tabs_keep h2 hT (fun p hp => hb9.cell hp)
    exact ⟨fun c hc => (mask_ne (by show 0 ≠ r; omega)).trans (ht9.1 c hc), fun i hi => ⟨(mask_ne (by show 1 ≠ r; omega)).trans (ht9.2 i hi).1, (mask_ne (by show 1 ≠ r; omega)).trans (ht9.2 i hi).2⟩⟩

theorem res_set (wr : World) (r : Nat) (z0 z1 z2 z3 v0 v1 v2 v3 : Value) (h : Blk wr r 31 #[z0, z1, z2, z3]) :
    Blk ((((wr.setCell ⟨r, 0, none⟩ v0).setCell ⟨r, 1, none⟩ v1).setCell ⟨r, 2, none⟩ v2).setCell ⟨r, 3, none⟩ v3) r 31 #[v0, v1, v2, v3] := (((h.set_ 0 v0).set_ 1 v1).set_ 2 v2).set_ 3 v3
theorem res_other (wr : World) (r : Nat) (v0 v1 v2 v3 : Value) (p : Addr) (h : p.block ≠ r) :
    ((((wr.setCell ⟨r, 0, none⟩ v0).setCell ⟨r, 1, none⟩ v1).setCell ⟨r, 2, none⟩ v2).setCell ⟨r, 3, none⟩ v3).cell? p = wr.cell? p := by
  have k : ∀ (w : World) (o : Nat) (v : Value), (w.setCell ⟨r, o, none⟩ v).cell? p = w.cell? p := fun w o v => World.cell?_setCell_other w ⟨r, o, none⟩ p v (fun e => h (by rw [← e]))
  rw [k, k, k, k]
theorem res_below (B : Nat) (wr : World) (r : Nat) (v0 v1 v2 v3 : Value) (h : B ≤ r) : Below B wr ((((wr.setCell ⟨r, 0, none⟩ v0).setCell ⟨r, 1, none⟩ v1).setCell ⟨r, 2, none⟩ v2).setCell ⟨r, 3, none⟩ v3) :=
  ((((Below.refl B wr).setCell h _).setCell h _).setCell h _).setCell h _
theorem res_size (wr : World) (r : Nat) (v0 v1 v2 v3 : Value) : ((((wr.setCell ⟨r, 0, none⟩ v0).setCell ⟨r, 1, none⟩ v1).setCell ⟨r, 2, none⟩ v2).setCell ⟨r, 3, none⟩ v3).heap.size = wr.heap.size := by simp [World.setCell]
theorem last_at {w : World} {B : Nat} (l : List It) (cells : List Value) (m : Nat) (h : ItsAt w B l cells) (hm : m + 1 = l.length) : ∃ i, l.getLast? = some i ∧ ∃ c, ItAt w B i c ∧ c.length = 4 ∧ ∀ j, j < 4 → cells[m * 4 + j]? = c[j]? := by
  obtain ⟨c, h1, h2, h3⟩ := ItsAt.nth l cells h m (by omega)
  refine ⟨l[m], ?_, c, h1, h2, h3⟩
  rw [List.getLast?_eq_getElem?, show l.length - 1 = m by omega, List.getElem?_eq_getElem (by omega)]

set_option maxRecDepth 100000 in
set_option maxHeartbeats 4000000 in
theorem built_any (A : Option Addr) (c : Nat) (ns : List Nd) (W : World) (hn : NdAt W A ns) (hl : ns.length ≤ 256) (hok : ∀ x ∈ ns, x.ok) (hsm : sumS ns ≤ 262144) (hT : Lib.Utf8Tabs 0 1 W) (h2 : 2 ≤ W.heap.size) :
    Calls Tryd.prog 6 #[.slice A ns.length c] W fun e w' => ∃ c0 c1 c2 c3, e = .returned (.agg #[c0, c1, c2, c3]) ∧ ItAt w' w'.heap.size (builtIt ns) [c0, c1, c2, c3] ∧ Below W.heap.size W w' := by
  have HN := Lib.hid hn
  have HO := Lib.hid hok
  have HT := Lib.hid hT
  clear hn hok hT
  obtain ⟨W0, hW0⟩ : ∃ W0, W.alloc (.cells #[.int .i64 0, .int .u64 0, .slice none 0 0, .slice none 0 0] 31) = W0 := ⟨_, rfl⟩
  have hbZ : Blk W0 W.heap.size 31 #[.int .i64 0, .int .u64 0, .slice none 0 0, .slice none 0 0] := by rw [← hW0]; exact Blk.new W 31 _
  have hbW : Below W.heap.size W W0 := by rw [← hW0]; exact (Below.refl _ W).alloc (Nat.le_refl _) _
  go_enter Tryd.func6, Tryd.ntmps6
  go_wp2
  go_loopg [3, 4] (ns.length + 1) (fun gk s3 s4 wr => ∃ (q : Nat) (st : List It) (A3 : Option Addr) (c3 : Nat) (cells : List Value), q ≤ ns.length ∧ s4 = .int .i64 (q : Int) ∧ s3 = .slice A3 st.length c3 ∧ st = builtL (ns.take q) ∧ st.length ≤ c3 ∧ c3 ≤ 9223372036854775807 ∧
      Reads (mask wr W.heap.size) wr.heap.size 4 A3 st.length cells ∧ ItsAt (mask wr W.heap.size) wr.heap.size st cells ∧ Blk wr W.heap.size 31 #[.int .i64 0, .int .u64 0, .slice none 0 0, .slice none 0 0] ∧ Below W.heap.size W wr ∧ ns.length < gk + q)
  case atStart => exact ⟨0, [], none, 0, [], Nat.zero_le _, rfl, rfl, by simp [builtL], by simp, by omega, ⟨by simp, fun h => absurd h (by simp)⟩, by simp [ItsAt], hbZ, hbW, by omega⟩
  case round =>
    obtain ⟨q, st, A3, c3, cells, hq, rfl, rfl, hst, hc3, hc3m, hrdM, hitsM, hbz, hbw, hgk⟩ := hrel
    have hMH : Holds wr.heap.size (mask wr W.heap.size) wr := fun p v _ h => (mask_some hbz.lt h).2
    have hrd := hrdM.ext hMH
    have hits := ItsAt.ext hMH st cells hitsM
    obtain ⟨g', rfl⟩ : ∃ g', gk = g' + 1 := ⟨gk - 1, by omega⟩
    have hstl : st.length ≤ q := by rw [hst]; exact builtL_len ns q
    have HST := Lib.hid hst
    clear hst
    by_cases hlt : q < ns.length
    · obtain ⟨g, o, rfl, hgW, hcell⟩ := (HN.out.below hbw) (by omega)
      obtain ⟨y0, y1, y2, y3⟩ := hcell q hlt
      have hx := HO.out ns[q] (List.getElem_mem hlt)
      have HBL := Lib.hid (builtL_snoc ns q hlt)
      have hxs : ns[q].s.size ≤ 262144 := Nat.le_trans (mem_sum ns _ (List.getElem_mem hlt)) hsm
      clear hcell
      generalize ns[q] = x at *
      obtain ⟨b, hb⟩ : ∃ b, cnt x.m st.length = b := ⟨_, rfl⟩
      have hbl : b ≤ st.length := by rw [← hb]; unfold cnt; omega
      obtain ⟨mm, hmm⟩ : ∃ mm : Int, (if x.m < 0 then -(x.m + 1) else x.m) = mm := ⟨_, rfl⟩
      have hmm0 : 0 ≤ mm ∧ mm ≤ 9223372036854775807 := by have := hx.2; rw [← hmm]; split <;> omega
      have HM := Lib.hid hmm
      have hb' : min (mm % 9).toNat st.length = b := by rw [← hb, ← hmm]; rfl
      have HB := Lib.hid hb
      have HB' := Lib.hid hb'
      obtain ⟨hx1, hx2, hx3, _⟩ := hx
      obtain ⟨hmm0, hmm1⟩ := hmm0
      clear hb hb' hmm
      go_upto_if 19 with fail
      go_cut [5] (fun s5 wx => s5 = .int .i64 mm ∧ wx = wr)
      case first =>
        by_cases hneg : x.m < 0
        · have e : -(x.m + 1) = mm := by have := HM.out; rw [if_pos hneg] at this; exact this
          have e1 : -1 - x.m = mm := by omega
          go_wp2
          go_meet
          exact ⟨by congr 1, rfl⟩
        · have e : x.m = mm := by have := HM.out; rw [if_neg hneg] at this; exact this
          go_wp2
          go_meet
          exact ⟨by congr 1, rfl⟩
      case rest =>
        obtain ⟨rfl, rfl⟩ := hcut
        go_upto_if 28 with fail
        go_cut [5] (fun s5 wx => s5 = .int .i64 (b : Int) ∧ wx = wc)
        case first =>
          by_cases hgt : (st.length : Int) < mm % 9
          · have e : b = st.length := by have := HB'.out; omega
            go_wp2
            go_meet
            exact ⟨by rw [e], rfl⟩
          · have e : (b : Int) = mm % 9 := by have := HB'.out; omega
            go_wp2
            go_meet
            exact ⟨by rw [e], rfl⟩
        case rest =>
          obtain ⟨rfl, rfl⟩ := hcut
          obtain ⟨wo, rfl⟩ : ∃ wo : World, wo = wc := ⟨_, rfl⟩
          go_upto_region 11 with fail
          go_cut [6] (fun s6 wx => NewIt wo x s6 wx)
          case first =>
            have hcv := fun W => run_bytes_of_string (P := Tryd.prog) W 9 24 5 x.s Tryd.underlying9 Tryd.underlying24 Tryd.underlying5
            go_region
            all_goals (go_wp2; go_meet; first | exact new1 wo x _ _ (cap_ge _ _ _ _) (cap_le _ _ _ _ (by omega)) | exact new2 wo x _ _ (cap_ge _ _ _ _) (cap_le _ _ _ _ (by omega)))
          case rest =>
            obtain ⟨gv, A4, c4, rfl, hbv, hgv, hgv2, hrd4, hne4, hc4, hc4m, hbc⟩ := hcut
            obtain ⟨wx, rfl⟩ : ∃ wx : World, wx = wc := ⟨_, rfl⟩
            obtain ⟨a, ha⟩ : ∃ a, st.length - b = a := ⟨_, rfl⟩
            have hab : a + b = st.length := by omega
            have hsub : (st.length : Int) - (b : Int) = (a : Int) := by omega
            have hsl := slice_from A3 st.length c3 a b hab
            obtain ⟨A5, hA5⟩ : ∃ A5, (if c3 = a then A3 else A3.map (·.add (a * 4))) = A5 := ⟨_, rfl⟩
            rw [hA5] at hsl
            have hrdx : Reads wx wo.heap.size 4 A3 st.length cells := hrd.below hbc
            have hrd5 : Reads wx wo.heap.size 4 A5 b (cells.drop (a * 4)) := by
              have := hrdx.cut (k := a) (cap := c3) (by omega) hc3
              rw [hA5, show st.length - a = b by omega] at this
              exact this
            have hone5 : ∀ u ∈ cells.drop (a * 4), u.oneCell' = true := fun u hu => itsAt_one st cells hits u (List.mem_of_mem_drop hu)
            have v3 : wx.cell? ⟨gv, 3, none⟩ = some (.slice none 0 0) := Blk.cell (t := 31) hbv 3
            obtain ⟨i0, hi0, hz0, hz1, hz2⟩ := info_parts info31
            have hwa : IntKind.i64.wrap (a : Int) = (a : Int) := IntWalk.i64_in _ (by omega)
            have h0a : (0 : Int) ≤ (a : Int) := by omega
            have hla : (a : Int) ≤ (st.length : Int) := by omega
            have hbe : st.length - a = b := by omega
            have hm1 : 0 + b ≤ maxLen := by simp only [maxLen]; omega
            have hm2 : (0 + b) * 64 ≤ 140737488355328 := by omega
            go_upto_region 12 with fail
            go_cut [] (fun wy => ∃ A6 c6, Blk wy gv 31 #[.int .i64 x.k, .int .u64 (x.n : Int), .slice A4 x.s.size c4, .slice A6 b c6] ∧ Reads wy wy.heap.size 4 A6 b (cells.drop (a * 4)) ∧ (∀ a, A6 = some a → a.block ≠ gv ∧ wo.heap.size ≤ a.block) ∧ Below gv wx wy ∧ Reads wy wy.heap.size 1 A4 x.s.size (x.s.data.toList.map bv))
            case first =>
              go_region_law (refine step_append_grew (P := Tryd.prog) _ rfl (.tmp 49) (.tmp 55) 29 rfl wx.heap.size 31 i0 _ 4 64 Tryd.underlying29 hi0 hz0 hz1 hz2 rfl (by omega) (.slice none 0 0) 0 [] rfl (World.ownsRow_nil _ _ _ _) wo.heap.size A5 b (c3 - a) (cells.drop (a * 4)) rfl hrd5.drew hone5 hm1 hm2 (Nat.le_refl _) ?_; intro v2 w1 hown2 hg2; obtain ⟨A6, c6, rfl⟩ := own_slice hown2; have hbv1 : Blk w1 gv 31 _ := Blk.grown hbv.drew hg2.gb (by simp [Value.ownBlock]); have v31 : w1.cell? ⟨gv, 3, none⟩ = some (.slice none 0 0) := Blk.cell (t := 31) hbv1 3; have f31 : w1.frozen? ⟨gv, 3, none⟩ = false := Blk.frozen (t := 31) hbv1 3)
              all_goals
                go_wp2
                go_meet
                have hx1 : Below wx.heap.size wx w1 := (Below.refl _ wx).drew.trans (show Below wx.heap.size wx.drew w1 from grown_below hg2.gb (Nat.le_refl _) (by simp [Value.ownBlock]))
                have hr6 := Reads.of_own hown2
                have hne6 : ∀ a, A6 = some a → a.block ≠ gv ∧ wo.heap.size ≤ a.block := fun a h => by
                  subst h
                  rcases hown2.2 with ⟨h, _⟩ | ⟨g6, _, _, h, hb6, _⟩
                  · cases h
                  · cases h; exact ⟨by show g6 ≠ gv; omega, by show wo.heap.size ≤ g6; omega⟩
                refine ⟨A6, c6, Blk.set_ hbv1 3 (.slice A6 b c6), ?_, hne6, ((hx1.mono (Nat.le_of_lt hgv2))).setCell (Nat.le_refl _) _, reads_far ((hrd4.below hx1).more hx1.size) (fun a h => (hne4 a h).1)⟩
                have := hr6
                rw [Nat.zero_add, List.nil_append] at this
                exact reads_far this (fun a h => (hne6 a h).1)
            case rest =>
              obtain ⟨A6, c6, hbv2, hrd6, hne6, hb2, hrd4y⟩ := hcut
              obtain ⟨wy, rfl⟩ : ∃ wy : World, wy = wc := ⟨_, rfl⟩
              have hgy : gv < wy.heap.size := hbv2.lt
              have hby : Below wo.heap.size wo wy := hbc.trans (hb2.mono hgv)
              have hrdy : Reads wy wo.heap.size 4 A3 a (cells.take (a * 4)) := (hrd.below hby).take (by omega)
              have hone6 : ∀ u ∈ cells.take (a * 4), u.oneCell' = true := fun u hu => itsAt_one st cells hits u (List.mem_of_mem_take hu)
              have u0 : wy.cell? ⟨gv, 0, none⟩ = some (.int .i64 x.k) := Blk.cell (t := 31) hbv2 0
              have u1 : wy.cell? ⟨gv, 1, none⟩ = some (.int .u64 (x.n : Int)) := Blk.cell (t := 31) hbv2 1
              have u2 : wy.cell? ⟨gv, 2, none⟩ = some (.slice A4 x.s.size c4) := Blk.cell (t := 31) hbv2 2
              have u3 : wy.cell? ⟨gv, 3, none⟩ = some (.slice A6 b c6) := Blk.cell (t := 31) hbv2 3
              have u0a : ∀ o, (wy.alloc o).cell? ⟨gv, 0, none⟩ = some (.int .i64 x.k) := fun o => (World.cell?_alloc_past _ _ _ hgy).trans u0
              have u1a : ∀ o, (wy.alloc o).cell? ⟨gv, 1, none⟩ = some (.int .u64 (x.n : Int)) := fun o => (World.cell?_alloc_past _ _ _ hgy).trans u1
              have u2a : ∀ o, (wy.alloc o).cell? ⟨gv, 2, none⟩ = some (.slice A4 x.s.size c4) := fun o => (World.cell?_alloc_past _ _ _ hgy).trans u2
              have u3a : ∀ o, (wy.alloc o).cell? ⟨gv, 3, none⟩ = some (.slice A6 b c6) := fun o => (World.cell?_alloc_past _ _ _ hgy).trans u3
              have hac : (a : Int) ≤ (c3 : Int) := by omega
              have hm3 : 0 + a ≤ maxLen := by simp only [maxLen]; omega
              have hm4 : (0 + a) * 64 ≤ 140737488355328 := by omega
              clear hsl hm1 hm2 v3
              go_upto_region 13 with fail
              have hone7 : ∀ u ∈ [Value.int .i64 x.k, .int .u64 (x.n : Int), .slice A4 x.s.size c4, .slice A6 b c6], u.oneCell' = true := fun u hu => by
                simp only [List.mem_cons, List.not_mem_nil, or_false] at hu
                rcases hu with rfl | rfl | rfl | rfl <;> rfl
              have hm5 : a + 1 ≤ maxLen := by simp only [maxLen]; omega
              have hm6 : (a + 1) * 64 ≤ 140737488355328 := by omega
              go_region_law (first | (refine step_append_grew (P := Tryd.prog) _ rfl (.tmp 58) (.tmp 64) 29 rfl wy.heap.size 31 i0 _ 4 64 Tryd.underlying29 hi0 hz0 hz1 hz2 rfl (by omega) (.slice (some ⟨_, 0, none⟩) 0 0) 0 [] rfl ?_ wo.heap.size A3 a c3 (cells.take (a * 4)) rfl ?_ hone6 hm3 hm4 ?_ ?_; (first | exact (own_e wy _ _ rfl (Nat.le_refl _)).drew | exact ((own_e wy _ _ rfl (Nat.le_refl _)).alloc _).drew | exact (own_e (wy.alloc _) _ _ (by simp) (by simp)).drew); (first | exact (hrdy.alloc hby.size _).drew | exact ((hrdy.alloc hby.size _).alloc (by have := hby.size; simp; omega) _).drew); (first | exact (((Below.refl wy.heap.size wy).alloc (Nat.le_refl _) _).drew).size | exact ((((Below.refl wy.heap.size wy).alloc (Nat.le_refl _) _).alloc (by simp) _).drew).size); intro v5 w5 hown5 hg5; rw [Nat.zero_add, List.nil_append] at hown5; obtain ⟨A5x, c5x, rfl⟩ := own_slice hown5; have hP5 : Below wy.heap.size wy w5 := (by first | exact grew_below (((Below.refl _ wy).alloc (Nat.le_refl _) _).drew) hg5 (((Below.refl wy.heap.size wy).alloc (Nat.le_refl _) _).drew).size (by simp [Value.ownBlock]) | exact grew_below ((((Below.refl _ wy).alloc (Nat.le_refl _) _).alloc (by simp) _).drew) hg5 ((((Below.refl wy.heap.size wy).alloc (Nat.le_refl _) _).alloc (by simp) _).drew).size (by simp [Value.ownBlock])); have u05 := (hP5.cell (p := ⟨gv, 0, none⟩) hgy).trans u0; have u15 := (hP5.cell (p := ⟨gv, 1, none⟩) hgy).trans u1; have u25 := (hP5.cell (p := ⟨gv, 2, none⟩) hgy).trans u2; have u35 := (hP5.cell (p := ⟨gv, 3, none⟩) hgy).trans u3) | (refine step_append_grew (P := Tryd.prog) _ rfl (.tmp 65) (.tmp 67) 29 rfl wy.heap.size 31 i0 _ 4 64 Tryd.underlying29 hi0 hz0 hz1 hz2 rfl (by omega) (.slice _ a _) a (cells.take (a * 4)) rfl ?_ (w5.heap.size + 1) _ 1 1 [.int .i64 x.k, .int .u64 (x.n : Int), .slice A4 x.s.size c4, .slice A6 b c6] rfl ?_ hone7 hm5 hm6 ?_ ?_; (first | exact hown5 | exact hown5.alloc _); (first | exact reads_new4 _ _ rfl _ _ _ _ | exact reads_grew hg5 (heap_alloc_new2 wy _ _) (by simp [Value.ownBlock]) | exact reads_grew hg5 (cut_old wy _ _) (by simp [Value.ownBlock])); (first | exact hP5.size | exact (hP5.alloc hP5.size _).size); intro v9 w9 hown9 hg9; obtain ⟨A9, c9, rfl⟩ := own_slice hown9; have hP9 : Below wy.heap.size wy w9 := (by first | exact grew_below hP5 hg9 hP5.size (own_ge hown5) | exact grew_below (hP5.alloc hP5.size _) hg9 (hP5.alloc hP5.size _).size (own_ge hown5))))
              all_goals
                have hCR := Lib.hid (close_round W.heap.size wo wy w9 st cells x a b c4 c6 c9 A4 A6 A9 hab hitsM hby hrd4y hrd6 hP9 hown9 hx1 hxs hc4 hc4m (by omega) (Nat.le_trans h2 hbw.size) hbz.lt h2 (Utf8Tabs_below HT.out hbw) (fun a h => (hne4 a h).2) (fun a h => (hne6 a h).2))
                clear hown9 hg9 hown5 hg5
                go_wp2
                go_roundg g'
                case measure => omega
                case rel =>
                  obtain ⟨k1, k2, k3, k4⟩ := hCR.out
                  have hsl : (stepB st x).length = a + 1 := by simp only [stepB, List.length_append, List.length_take, List.length_cons, List.length_nil, HB.out]; omega
                  have hse : stepB st x = st.take a ++ [.mk x.k x.n x.s.data.toList (st.drop a)] := by simp only [stepB, HB.out, ha]
                  refine ⟨q + 1, stepB st x, A9, c9, _, by omega, by go_num, by rw [hsl], ?_, by rw [hsl]; exact k1, k2, by rw [hsl]; exact k3, by rw [hse]; exact k4, ?_, ?_, by omega⟩
                  · rw [HBL.out, ← HST.out]
                  · exact (hbz.below hby hbz.lt).below hP9 (Nat.lt_of_lt_of_le hbz.lt hby.size)
                  · exact hbw.trans ((hby.trans (hP9.mono hby.size)).mono hbw.size)
    · have hqe : q = ns.length := by omega
      have HSF : Hid (builtL ns = st) := Lib.hid (by rw [HST.out, hqe, List.take_length])
      have z0 : wr.cell? ⟨W.heap.size, 0, none⟩ = some (.int .i64 0) := Blk.cell (t := 31) hbz 0
      have z1 : wr.cell? ⟨W.heap.size, 1, none⟩ = some (.int .u64 0) := Blk.cell (t := 31) hbz 1
      have z2 : wr.cell? ⟨W.heap.size, 2, none⟩ = some (.slice none 0 0) := Blk.cell (t := 31) hbz 2
      have z3 : wr.cell? ⟨W.heap.size, 3, none⟩ = some (.slice none 0 0) := Blk.cell (t := 31) hbz 3
      have f0 : ∀ j, wr.frozen? ⟨W.heap.size, j, none⟩ = false := fun j => Blk.frozen (t := 31) hbz j
      by_cases hs0 : st.length = 0
      · have hbt : builtIt ns = .mk 0 0 [] [] := by
          have : st = [] := List.length_eq_zero_iff.1 hs0
          unfold builtIt
          rw [HSF.out, this]
          rfl
        have HBT := Lib.hid hbt
        clear hbt
        have R1 := res_set wr W.heap.size _ _ _ _ (.int .i64 0) (.int .u64 0) (.slice none 0 0) (.slice none 0 0) hbz
        have R2 := res_below W.heap.size wr W.heap.size (.int .i64 0) (.int .u64 0) (.slice none 0 0) (.slice none 0 0) (Nat.le_refl _)
        have R3 := res_size wr W.heap.size (.int .i64 0) (.int .u64 0) (.slice none 0 0) (.slice none 0 0)
        go_wp2
        generalize (((wr.setCell ⟨W.heap.size, 0, none⟩ (.int .i64 0)).setCell ⟨W.heap.size, 1, none⟩ (.int .u64 0)).setCell ⟨W.heap.size, 2, none⟩ (.slice none 0 0)).setCell ⟨W.heap.size, 3, none⟩ (.slice none 0 0) = w' at *
        have r0 := Blk.cell (t := 31) R1 0
        have r1 := Blk.cell (t := 31) R1 1
        have r2 := Blk.cell (t := 31) R1 2
        have r3 := Blk.cell (t := 31) R1 3
        have hbw' := hbw.trans R2
        refine bodyPost_ret (v := .agg #[.int .i64 0, .int .u64 0, .slice none 0 0, .slice none 0 0]) (by simp [results, Tryd.results6, go_sem, r0, r1, r2, r3]) rfl ⟨_, _, _, _, rfl, ?_, hbw'⟩
        rw [HBT.out]
        simp only [ItAt]
        exact ⟨none, 0, none, 0, [], rfl, ⟨rfl, fun h => absurd h (by simp)⟩, ⟨rfl, fun h => absurd h (by simp)⟩, by simp [ItsAt], by omega, by simp, by simp, by simp, by omega, by have := hbw'.size; omega, Utf8Tabs_below HT.out hbw'⟩
      · obtain ⟨m, hm⟩ : ∃ m, m + 1 = st.length := ⟨st.length - 1, by omega⟩
        obtain ⟨it, hit, cs, hat, hcl, hcs⟩ := last_at st cells m hitsM hm
        obtain ⟨v0, v1, v2, v3, rfl⟩ : ∃ v0 v1 v2 v3, cs = [v0, v1, v2, v3] := by
          match cs, hcl with
          | [a, b, c, d], _ => exact ⟨a, b, c, d, rfl⟩
        obtain ⟨ik, inn, iA, im, ic, iB, il, id, rfl, rfl, rfl, rfl⟩ : ∃ (ik : Int) (inn : Int) (iA : Option Addr) (im ic : Nat) (iB : Option Addr) (il id : Nat), v0 = .int .i64 ik ∧ v1 = .int .u64 inn ∧ v2 = .slice iA im ic ∧ v3 = .slice iB il id := by
          obtain ⟨k', n', d', l'⟩ := it
          simp only [ItAt] at hat
          obtain ⟨A', c', A2', c2', cells', e, _⟩ := hat
          simp only [List.cons.injEq, and_true] at e
          obtain ⟨rfl, rfl, rfl, rfl⟩ := e
          exact ⟨_, _, _, _, _, _, _, _, rfl, rfl, rfl, rfl⟩
        obtain ⟨ad, rfl, hadb, hadc⟩ := hrd.2 (by omega)
        obtain ⟨g3, o3, sp⟩ := ad
        have w0 := hadc (m * 4 + 0) (.int .i64 ik) (by rw [hcs 0 (by omega)]; rfl)
        have hsp : sp = none := by
          obtain ⟨c00, _, hl00, h00⟩ := ItsAt.nth st cells hits 0 (by omega)
          have hz : cells[0]? = some c00[0] := by have := h00 0 (by omega); simp only [Nat.zero_mul, Nat.zero_add] at this; rw [this]; exact List.getElem?_eq_getElem (by omega)
          have := World.cell?_spot (hadc 0 _ hz)
          simpa [Addr.add] using this
        subst hsp
        rw [addr_add] at w0
        have y0 : wr.cell? ⟨g3, o3 + m * 4, none⟩ = some (.int .i64 ik) := w0
        have y1 : wr.cell? ⟨g3, o3 + m * 4 + 1, none⟩ = some (.int .u64 inn) := by have := hadc (m * 4 + 1) (.int .u64 inn) (by rw [hcs 1 (by omega)]; rfl); rw [addr_add, ← Nat.add_assoc] at this; exact this
        have y2 : wr.cell? ⟨g3, o3 + m * 4 + 2, none⟩ = some (.slice iA im ic) := by have := hadc (m * 4 + 2) (.slice iA im ic) (by rw [hcs 2 (by omega)]; rfl); rw [addr_add, ← Nat.add_assoc] at this; exact this
        have y3 : wr.cell? ⟨g3, o3 + m * 4 + 3, none⟩ = some (.slice iB il id) := by have := hadc (m * 4 + 3) (.slice iB il id) (by rw [hcs 3 (by omega)]; rfl); rw [addr_add, ← Nat.add_assoc] at this; exact this
        have hbt : builtIt ns = it := by
          unfold builtIt
          rw [HSF.out, hit]
        have HBT := Lib.hid hbt
        have hidx : (st.length : Int) - 1 = (m : Int) := by omega
        have hm0 : (0 : Int) ≤ (m : Int) := by omega
        have hml : (m : Int) < (st.length : Int) := by omega
        have hs0b : ((st.length : Int) == 0) = false := by rw [beq_eq_false_iff_ne]; omega
        have HAT := Lib.hid hat
        have HHO := Lib.hid (show ∀ w' : World, (∀ p : Addr, p.block ≠ W.heap.size → w'.cell? p = wr.cell? p) → Holds wr.heap.size (mask wr W.heap.size) w' from fun w' h p v hp hv => by
          obtain ⟨hne, hs⟩ := mask_some hbz.lt hv
          rw [h p hne]; exact hs)
        have R1 := res_set wr W.heap.size _ _ _ _ (.int .i64 ik) (.int .u64 inn) (.slice iA im ic) (.slice iB il id) hbz
        have R2 := res_below W.heap.size wr W.heap.size (.int .i64 ik) (.int .u64 inn) (.slice iA im ic) (.slice iB il id) (Nat.le_refl _)
        have R3 := res_size wr W.heap.size (.int .i64 ik) (.int .u64 inn) (.slice iA im ic) (.slice iB il id)
        have R4 := Lib.hid (res_other wr W.heap.size (.int .i64 ik) (.int .u64 inn) (.slice iA im ic) (.slice iB il id))
        clear hbt hat hit hcs hadc w0 hm hs0 hrd hits hrdM hitsM hMH
        go_wp2
        generalize (((wr.setCell ⟨W.heap.size, 0, none⟩ (.int .i64 ik)).setCell ⟨W.heap.size, 1, none⟩ (.int .u64 inn)).setCell ⟨W.heap.size, 2, none⟩ (.slice iA im ic)).setCell ⟨W.heap.size, 3, none⟩ (.slice iB il id) = w' at *
        have r0 := Blk.cell (t := 31) R1 0
        have r1 := Blk.cell (t := 31) R1 1
        have r2 := Blk.cell (t := 31) R1 2
        have r3 := Blk.cell (t := 31) R1 3
        refine bodyPost_ret (v := .agg #[.int .i64 ik, .int .u64 inn, .slice iA im ic, .slice iB il id]) (by simp [results, Tryd.results6, go_sem, r0, r1, r2, r3]) rfl ⟨_, _, _, _, rfl, ?_, hbw.trans R2⟩
        rw [HBT.out]
        exact ItAt.more (by omega) it _ (ItAt.ext (HHO.out w' R4.out) it _ HAT.out)
end Go.Proofs.YtonkkojankmhbaaDoor
