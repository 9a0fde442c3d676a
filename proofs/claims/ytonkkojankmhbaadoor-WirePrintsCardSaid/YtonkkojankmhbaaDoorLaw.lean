/- The plain law of WirePrints: the program's print of an item is the reference's. No program in sight. -/
namespace Go.Proofs.YtonkkojankmhbaaDoor
namespace Wp
/-- An item, as data. -/
inductive It where
  | mk (kind : Int) (num : Nat) (data : List UInt8) (list : List It)

def lexLt : List UInt8 → List UInt8 → Bool
  | _, [] => false
  | [], _ :: _ => true
  | a :: l, b :: m => a < b || (a == b && lexLt l m)

/-- n in so many bytes, the highest first -/
def beN (n : Nat) : Nat → List UInt8
  | 0 => []
  | s + 1 => UInt8.ofNat (n >>> (8 * s)) :: beN n s

/-- A HEAD. -/
def headB (kind : Nat) (n : Nat) : List UInt8 :=
  if n < 24 then [UInt8.ofNat (kind * 32 + n)]
  else if n < 256 then UInt8.ofNat (kind * 32 + 24) :: beN n 1
  else if n < 65536 then UInt8.ofNat (kind * 32 + 25) :: beN n 2
  else if n < 4294967296 then UInt8.ofNat (kind * 32 + 26) :: beN n 4
  else UInt8.ofNat (kind * 32 + 27) :: beN n 8

variable (u8 : List UInt8 → Bool)

/-- What an item itself must be. -/
def fine (k : Int) (n : Nat) (d : List UInt8) (l : List It) : Bool :=
  (k == 0 || k == 1 || k == 2 || k == 3 || k == 4 || k == 5 || k == 7) &&
  (if k == 3 then u8 d else if k == 5 then l.length % 2 == 0 else if k == 7 then decide (20 ≤ n) && decide (n ≤ 22) else true) &&
  ((k == 0 || k == 1 || k == 7) || n == 0) && ((k == 2 || k == 3) || d.length == 0) && ((k == 4 || k == 5) || l.length == 0)

mutual
/-- The program's item: what is left, the bytes. -/
def pItem : It → Nat → Int → List UInt8 → Option (Int × List UInt8)
  | .mk k n d l, deep, left, b =>
    if left - 1 ≥ 0 ∧ deep ≤ 16 then
      if fine u8 k n d l then
        if k == 0 || k == 1 || k == 7 then
          let b := b ++ headB k.toNat n
          if b.length ≤ 65536 then some (left - 1, b) else none
        else if k == 2 || k == 3 then
          if d.length ≤ 65536 then
            let b := b ++ headB k.toNat d.length ++ d
            if b.length ≤ 65536 then some (left - 1, b) else none
          else none
        else
          match pList (k == 5) 0 l (deep + 1) (left - 1) (b ++ headB k.toNat (if k == 5 then l.length / 2 else l.length)) [] with
          | some (left, b) => if b.length ≤ 65536 then some (left, b) else none
          | none => none
      else none
    else none
def pList (keyed : Bool) : Nat → List It → Nat → Int → List UInt8 → List UInt8 → Option (Int × List UInt8)
  | _, [], _, left, b, _ => some (left, b)
  | k, i :: r, deep, left, b, last =>
    match pItem i deep left b with
    | none => none
    | some (left', b') =>
      if !keyed || k % 2 > 0 then pList keyed (k + 1) r deep left' b' last
      else
        let this := b'.drop b.length
        if k == 0 || lexLt last this then pList keyed (k + 1) r deep left' b' this else none
end

mutual
/-- The reference's valid: how many items are in it. -/
def rValid : It → Nat → Int → Option Nat
  | .mk k n d l, deep, left =>
    if left < 1 ∨ deep > 16 then none
    else if fine u8 k n d l then rValidL l (deep + 1) left 1
    else none
def rValidL : List It → Nat → Int → Nat → Option Nat
  | [], _, _, n => some n
  | i :: r, deep, left, n =>
    match rValid i deep (left - n) with
    | none => none
    | some m => rValidL r deep left (n + m)
end

mutual
/-- The reference's write. -/
def rWrite : It → Option (List UInt8)
  | .mk k n d l =>
    if k < 2 ∨ k = 7 then some (headB k.toNat n)
    else if k < 4 then
      let s := headB k.toNat d.length ++ d
      if s.length ≤ 65536 then some s else none
    else rWriteL (k == 5) 0 l (headB k.toNat (if k == 5 then l.length / 2 else l.length)) []
def rWriteL (keyed : Bool) : Nat → List It → List UInt8 → List UInt8 → Option (List UInt8)
  | _, [], out, _ => some out
  | k, i :: r, out, last =>
    match rWrite i with
    | none => none
    | some s =>
      if out.length + s.length > 65536 then none
      else if keyed && k % 2 == 0 then
        if k > 0 && !lexLt last s then none else rWriteL keyed (k + 1) r (out ++ s) s
      else rWriteL keyed (k + 1) r (out ++ s) last
end

theorem beN_length (n s : Nat) : (beN n s).length = s := by
  induction s with
  | zero => rfl
  | succ s ih => simp [beN, ih]

theorem headB_length (k n : Nat) : 1 ≤ (headB k n).length ∧ (headB k n).length ≤ 9 := by
  unfold headB
  repeat' split
  all_goals simp [beN_length]


theorem rWriteL_long (keyed : Bool) : ∀ (l : List It) (k : Nat) (out last s : List UInt8), rWriteL keyed k l out last = some s → out.length ≤ s.length := by
  intro l
  induction l with
  | nil => intro k out last s h; simp [rWriteL] at h; simp [h]
  | cons i r ih =>
    intro k out last s h
    simp only [rWriteL] at h
    repeat' split at h
    all_goals first | (exact absurd h (by simp)) | (have := ih _ _ _ _ h; simp only [List.length_append] at this; omega)

def fits (s : List UInt8) : Bool := decide (s.length ≤ 65536)

/-- The program's item out of the reference's. -/
def both (v : Option Nat) (s : Option (List UInt8)) (left : Int) (b : List UInt8) : Option (Int × List UInt8) :=
  match v, s with
  | some m, some s => if b.length + s.length ≤ 65536 then some (left - m, b ++ s) else none
  | _, _ => none

def chk (x : Option (Int × List UInt8)) : Option (Int × List UInt8) :=
  match x with
  | some (left, b) => if b.length ≤ 65536 then some (left, b) else none
  | none => none

theorem pList_eq (keyed : Bool) : ∀ (l : List It) (k deep : Nat) (left : Int) (n : Nat) (b out last : List UInt8),
    (∀ i ∈ l, ∀ deep left b, pItem u8 i deep left b = both (rValid u8 i deep left) (rWrite i) left b) →
    chk (pList u8 keyed k l deep (left - n) (b ++ out) last) = both (rValidL u8 l deep left n) (rWriteL keyed k l out last) left b := by
  intro l
  induction l with
  | nil =>
    intro k deep left n b out last _
    simp [pList, rValidL, rWriteL, chk, both]
  | cons i r ih =>
    intro k deep left n b out last hi
    have ih' := fun k deep left n b out last => ih k deep left n b out last (fun j hj => hi j (List.mem_cons_of_mem _ hj))
    have e1 := hi i (List.mem_cons_self) deep (left - n) (b ++ out)
    simp only [pList, rValidL, rWriteL, e1]
    cases hv : rValid u8 i deep (left - n) with
    | none => simp [both, chk]
    | some m =>
      cases hw : rWrite i with
      | none =>
        simp only [both, chk]
        split <;> simp_all
      | some s =>
        simp only [both]
        by_cases hs : (b ++ out).length + s.length ≤ 65536
        · have hs' : ¬ (out.length + s.length > 65536) := by simp only [List.length_append] at hs; omega
          rw [if_pos hs, if_neg hs']
          have hd : (b ++ out ++ s).drop (b ++ out).length = s := by simp
          have hl : left - (n : Int) - (m : Int) = left - ((n + m : Nat) : Int) := by omega
          simp only [hd, hl]
          simp only [List.append_assoc]
          by_cases hk : (!keyed || decide (k % 2 > 0)) = true
          · have hk' : (keyed && k % 2 == 0) = false := by
              cases keyed
              · rfl
              · simp at hk ⊢; omega
            rw [if_pos hk]
            simp only [hk', Bool.false_eq_true, if_false]
            exact ih' _ _ _ _ _ _ _
          · have hk' : (keyed && k % 2 == 0) = true := by
              cases keyed
              · simp at hk
              · simp at hk ⊢; omega
            rw [if_neg hk]
            simp only [hk', if_true]
            by_cases hlt : (k == 0 || lexLt last s) = true
            · have hlt' : (decide (k > 0) && !lexLt last s) = false := by
                cases hx : lexLt last s
                · simp [hx] at hlt; subst hlt; rfl
                · simp
              rw [if_pos hlt]
              simp only [hlt', Bool.false_eq_true, if_false]
              exact ih' _ _ _ _ _ _ _
            · have hlt' : (decide (k > 0) && !lexLt last s) = true := by
                simp at hlt ⊢
                exact ⟨by omega, hlt.2⟩
              rw [if_neg hlt]
              simp only [hlt', if_true]
              simp only [chk]
              split <;> simp_all
        · rw [if_neg hs]
          simp only [chk]
          simp only [List.length_append] at hs
          symm
          split
          · rename_i m' s' hm' hs'
            rw [if_neg]
            intro hle
            split at hs'
            · cases hs'
            · split at hs'
              · split at hs'
                · cases hs'
                · have := rWriteL_long _ _ _ _ _ _ hs'; simp only [List.length_append] at this; omega
              · have := rWriteL_long _ _ _ _ _ _ hs'; simp only [List.length_append] at this; omega
          · rfl

theorem pItem_eq : ∀ (i : It) (deep : Nat) (left : Int) (b : List UInt8), pItem u8 i deep left b = both (rValid u8 i deep left) (rWrite i) left b
  | .mk k n d l, deep, left, b => by
    have hl := fun (i : It) (_ : i ∈ l) => pItem_eq i
    simp only [pItem, rValid, rWrite]
    by_cases h1 : left - 1 ≥ 0 ∧ deep ≤ 16
    · have h1' : ¬ (left < 1 ∨ deep > 16) := by omega
      rw [if_pos h1, if_neg h1']
      by_cases h2 : fine u8 k n d l = true
      · rw [if_pos h2, if_pos h2]
        have hk : k = 0 ∨ k = 1 ∨ k = 2 ∨ k = 3 ∨ k = 4 ∨ k = 5 ∨ k = 7 := by
          simp only [fine, Bool.and_eq_true, Bool.or_eq_true, beq_iff_eq] at h2
          omega
        have hl0 : k = 0 ∨ k = 1 ∨ k = 2 ∨ k = 3 ∨ k = 7 → l = [] := by
          intro hk
          simp only [fine, Bool.and_eq_true, Bool.or_eq_true, beq_iff_eq] at h2
          apply List.length_eq_zero_iff.1
          omega
        have hnum : k = 0 ∨ k = 1 ∨ k = 7 → ((k == 0 || k == 1 || k == 7) = true) ∧ (k < 2 ∨ k = 7) := by
          intro h; refine ⟨by simp; omega, by omega⟩
        have hdat : k = 2 ∨ k = 3 → ((k == 0 || k == 1 || k == 7) = false) ∧ ((k == 2 || k == 3) = true) ∧ ¬ (k < 2 ∨ k = 7) ∧ k < 4 := by
          rintro (rfl | rfl) <;> refine ⟨by decide, by decide, by omega, by omega⟩
        have hlis : k = 4 ∨ k = 5 → ((k == 0 || k == 1 || k == 7) = false) ∧ ((k == 2 || k == 3) = false) ∧ ¬ (k < 2 ∨ k = 7) ∧ ¬ k < 4 := by
          rintro (rfl | rfl) <;> refine ⟨by decide, by decide, by omega, by omega⟩
        rcases (show (k = 0 ∨ k = 1 ∨ k = 7) ∨ (k = 2 ∨ k = 3) ∨ (k = 4 ∨ k = 5) by omega) with h | h | h
        · obtain rfl := hl0 (by omega)
          obtain ⟨a, b'⟩ := hnum h
          rw [if_pos a, if_pos b']
          simp [rValidL, both, List.length_append]
        · obtain rfl := hl0 (by omega)
          obtain ⟨a, b', c, d'⟩ := hdat h
          rw [a]
          simp only [Bool.false_eq_true, if_false]
          rw [if_pos b', if_neg c, if_pos d']
          by_cases hd : d.length ≤ 65536
          · rw [if_pos hd]
            by_cases hs : (headB k.toNat d.length ++ d).length ≤ 65536
            · rw [if_pos hs]
              simp [rValidL, both, List.length_append]
            · rw [if_neg hs]
              simp only [List.length_append] at hs
              simp only [rValidL, both, List.length_append]
              rw [if_neg (by omega)]
          · rw [if_neg hd, if_neg (by simp only [List.length_append]; omega)]
            simp [rValidL, both]
        · obtain ⟨a, b', c, d'⟩ := hlis h
          rw [a, b']
          simp only [Bool.false_eq_true, if_false]
          rw [if_neg c, if_neg d']
          have := pList_eq u8 (k == 5) l 0 (deep + 1) left 1 b (headB k.toNat (if k == 5 then l.length / 2 else l.length)) [] hl
          exact this
      · rw [if_neg h2, if_neg h2]
        simp [both]
    · have h1' : left < 1 ∨ deep > 16 := by omega
      rw [if_neg h1, if_pos h1']
      simp [both]
  termination_by i => sizeOf i
  decreasing_by
    have := List.sizeOf_lt_of_mem ‹i ∈ l›
    simp only [It.mk.sizeOf_spec]; omega

theorem rWrite_fits : ∀ (i : It) (s : List UInt8) , rWrite i = some s → s.length ≤ 65536
  | .mk k n d l, s, h => by
    simp only [rWrite] at h
    split at h
    · have := headB_length k.toNat n
      cases h; omega
    · split at h
      · split at h
        · cases h; assumption
        · cases h
      · have key : ∀ (l : List It) (kk : Nat) (out last s : List UInt8), out.length ≤ 65536 → rWriteL (k == 5) kk l out last = some s → s.length ≤ 65536 := by
          intro l
          induction l with
          | nil => intro kk out last s ho h; simp [rWriteL] at h; simp [← h, ho]
          | cons i r ih =>
            intro kk out last s ho h
            simp only [rWriteL] at h
            split at h
            · cases h
            · split at h
              · cases h
              · split at h
                · split at h
                  · cases h
                  · exact ih _ _ _ _ (by simp only [List.length_append]; omega) h
                · exact ih _ _ _ _ (by simp only [List.length_append]; omega) h
        exact key _ _ _ _ _ (by have := headB_length k.toNat (if k == 5 then l.length / 2 else l.length); omega) h

/-- THE PLAIN LAW: the program's print is the reference's. -/
theorem print_same (i : It) : (pItem u8 i 1 4096 []).map (·.2) = (if (rValid u8 i 1 4096).isSome then rWrite i else none) := by
  rw [pItem_eq]
  cases hv : rValid u8 i 1 4096 with
  | none => simp [both]
  | some m =>
    cases hw : rWrite i with
    | none => simp [both]
    | some s => simp [both, rWrite_fits i s hw]
end Wp
end Go.Proofs.YtonkkojankmhbaaDoor
