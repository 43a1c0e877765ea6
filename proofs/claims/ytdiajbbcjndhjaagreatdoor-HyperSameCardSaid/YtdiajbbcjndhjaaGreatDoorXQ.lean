/- Where an operation looks, and what it turns. -/
import Derived.Test.YtdiajbbcjndhjaaGreatDoorXP
namespace Go.Xa
open Go.RowKit

def headM : D → Nat
  | .ptr id _ _ | .own id _ _ _ => 1 <<< id
  | _ => 0
def isPtr : D → Bool
  | .ptr .. => true
  | _ => false
/-- What an operation looks at, and whether it turns it. -/
def opFoot (ν : Nat) (ρ : Operand → D) (n : Nat) : Op → Nat × Bool
  | .load _ a => (headM (ρ a), false)
  | .indexAddr _ x _ => (headM (norm (ρ x)), false)
  | .alloc _ | .box .. | .buildSlice .. | .makeSlice .. => (1 <<< ν, true)
  | .store _ a _ => (headM (ρ a), true)
  | .convert _ _ x => (1 <<< ν ||| headM (norm (ρ x)), true)
  | .slice _ x _ _ _ => (headM (norm (ρ x)), isPtr (norm (ρ x)))
  | .call { callee := .builtin .append, args, .. } => (1 <<< ν ||| (args.toList.foldl (fun m x => m ||| headM (norm (ρ x))) 0), true)
  | .call { callee := .builtin .copy, args, .. } => ((args.toList.foldl (fun m x => m ||| headM (norm (ρ x))) 0), true)
  | .call { callee := .builtin .clear, args, .. } => ((args.toList.foldl (fun m x => m ||| headM (norm (ρ x))) 0), true)
  | .call { callee := .value f, args, .. } =>
    match ρ f with
    | .fn _ a b => if (a ++ args.toList.map ρ ++ b).all D.free then (1 <<< ν, true) else (1 <<< n - 1, true)
    | _ => (1 <<< n - 1, true)
  | _ => (0, false)

def Agree (R : Nat) (h h2 : List Blk) : Prop := ∀ id, R.testBit id = true → h2[id]? = h[id]?
/-- What it yields hangs on what it looks at alone; it turns no more than that. -/
structure Loc (R : Nat) (wr : Bool) (f : List Blk → Option (D × List Blk)) (h : List Blk) (d : D) (h' : List Blk) : Prop where
  off : ∀ id, (wr && R.testBit id) = false → h'[id]? = h[id]?
  same : ∀ h2, h2.length = h.length → Agree R h h2 → ∃ h2', f h2 = some (d, h2') ∧ h2'.length = h2.length ∧ (∀ id, (wr && R.testBit id) = true → h2'[id]? = h'[id]?) ∧ (∀ id, (wr && R.testBit id) = false → h2'[id]? = h2[id]?)

theorem Loc.pure {R : Nat} {wr : Bool} {f : List Blk → Option (D × List Blk)} {h : List Blk} {d : D} (hs : ∀ h2, Agree R h h2 → f h2 = some (d, h2)) : Loc R wr f h d h :=
  ⟨fun _ _ => rfl, fun h2 _ ha => ⟨h2, hs h2 ha, rfl, fun id hid => ha id (by cases wr <;> simp_all), fun _ _ => rfl⟩⟩
theorem bit_self (n : Nat) : (1 <<< n).testBit n = true := by simp [Nat.one_shiftLeft, Nat.testBit_two_pow_self]
theorem Loc.set {R : Nat} {f : List Blk → Option (D × List Blk)} {h : List Blk} {d : D} {i : Nat} {x : Blk} (hR : R.testBit i = true) (hs : ∀ h2, h2.length = h.length → Agree R h h2 → f h2 = some (d, h2.set i x)) : Loc R true f h d (h.set i x) := by
  refine ⟨fun id hid => ?_, fun h2 hl ha => ⟨_, hs h2 hl ha, by simp, fun id hid => ?_, fun id hid => ?_⟩⟩
  · have : i ≠ id := fun e => by subst e; simp [hR] at hid
    rw [List.getElem?_set_ne this]
  · rw [List.getElem?_set, List.getElem?_set]
    have := ha id (by simpa using hid)
    rw [hl, this]
  · have : i ≠ id := fun e => by subst e; simp [hR] at hid
    rw [List.getElem?_set_ne this]
theorem Loc.set2 {R : Nat} {f : List Blk → Option (D × List Blk)} {h : List Blk} {d : D} {i j : Nat} {x y : Blk} (hR : R.testBit i = true) (hR2 : R.testBit j = true) (hs : ∀ h2, h2.length = h.length → Agree R h h2 → f h2 = some (d, (h2.set i x).set j y)) :
    Loc R true f h d ((h.set i x).set j y) := by
  refine ⟨fun id hid => ?_, fun h2 hl ha => ⟨_, hs h2 hl ha, by simp, fun id hid => ?_, fun id hid => ?_⟩⟩
  · have e1 : i ≠ id := fun e => by subst e; simp [hR] at hid
    have e2 : j ≠ id := fun e => by subst e; simp [hR2] at hid
    rw [List.getElem?_set_ne e2, List.getElem?_set_ne e1]
  · rw [List.getElem?_set, List.getElem?_set, List.getElem?_set, List.getElem?_set]
    have := ha id (by simpa using hid)
    simp only [List.length_set]
    rw [hl, this]
  · have e1 : i ≠ id := fun e => by subst e; simp [hR] at hid
    have e2 : j ≠ id := fun e => by subst e; simp [hR2] at hid
    rw [List.getElem?_set_ne e2, List.getElem?_set_ne e1]
/-- A number at hand: no more places. -/
theorem place_set {ν : Nat} {x : Blk} {h : List Blk} (hl : (place ν x h).length = h.length) : place ν x h = h.set ν x := by
  unfold place at *
  split at hl
  · simp at hl
  · rename_i e; rw [if_neg e]
theorem place_set' {ν : Nat} {x : Blk} {h h2 : List Blk} (hl : (place ν x h).length = h.length) (h2l : h2.length = h.length) : place ν x h2 = h2.set ν x := by
  unfold place at *
  split at hl
  · simp at hl
  · rename_i e; rw [if_neg (by omega)]
theorem Loc.place {R : Nat} {f : List Blk → Option (D × List Blk)} {h : List Blk} {d : D} {ν : Nat} {x : Blk} (hl : (place ν x h).length = h.length) (hR : R.testBit ν = true) (hs : ∀ h2, Agree R h h2 → f h2 = some (d, Go.Xa.place ν x h2)) : Loc R true f h d (Go.Xa.place ν x h) := by
  rw [place_set hl]
  exact Loc.set hR fun h2 h2l ha => by rw [hs h2 ha, place_set' hl h2l]
/-- Everything: it hangs on all. -/
theorem Loc.all {f : List Blk → Option (D × List Blk)} {h h' : List Blk} {d : D} (hf : f h = some (d, h')) (hl : h'.length = h.length) : Loc (1 <<< h.length - 1) true f h d h' := by
  have hb : ∀ id, (1 <<< h.length - 1).testBit id = decide (id < h.length) := fun id => by rw [Nat.one_shiftLeft, Nat.testBit_two_pow_sub_one]
  refine ⟨fun id hid => ?_, fun h2 h2l ha => ?_⟩
  · rw [hb] at hid
    simp at hid
    rw [List.getElem?_eq_none (by omega), List.getElem?_eq_none hid]
  · have : h2 = h := List.ext_getElem? fun id => by
      by_cases hid : id < h.length
      · exact ha id (by rw [hb]; simpa using hid)
      · rw [List.getElem?_eq_none (by omega), List.getElem?_eq_none (by omega)]
    subst this
    refine ⟨h', hf, hl, fun _ _ => rfl, fun id hid => ?_⟩
    rw [hb] at hid
    simp at hid
    rw [List.getElem?_eq_none (by omega), List.getElem?_eq_none hid]

theorem headM_ptr {id i j : Nat} : (headM (.ptr id i j)).testBit id = true := bit_self id
theorem headM_own {id i j : Nat} {c : Bool} : (headM (.own id i j c)).testBit id = true := bit_self id
theorem Agree.ptr {h h2 : List Blk} {id i j : Nat} (ha : Agree (headM (.ptr id i j)) h h2) : h2[id]? = h[id]? := ha id headM_ptr
theorem Agree.own {h h2 : List Blk} {id i j : Nat} {c : Bool} (ha : Agree (headM (.own id i j c)) h h2) : h2[id]? = h[id]? := ha id headM_own
theorem Agree.left {R S : Nat} {h h2 : List Blk} (ha : Agree (R ||| S) h h2) : Agree R h h2 := fun id hid => ha id (by simp [hid])
theorem Agree.right {R S : Nat} {h h2 : List Blk} (ha : Agree (R ||| S) h h2) : Agree S h h2 := fun id hid => ha id (by simp [hid])

theorem aView_same {p : D} {h h2 : List Blk} (ha : Agree (headM p) h h2) : aView p h2 = aView p h := by
  cases p <;> simp only [aView]
  rw [ha.ptr]
theorem aElems_same {x : D} {h h2 : List Blk} (ha : Agree (headM x) h h2) : aElems x h2 = aElems x h := by
  cases x <;> simp only [aElems]
  rw [ha.own]
theorem aSource_same {T : Tbl} {t : TypeId} {x : D} {n : Nat} {h h2 : List Blk} (ha : Agree (headM x) h h2) : aSource T t x n h2 = aSource T t x n h := by
  unfold aSource
  simp only [aElems_same ha]
theorem aConv_same {T : Tbl} {s t : TypeId} {x : D} {h h2 : List Blk} (ha : Agree (headM x) h h2) : aConv T s t x h2 = aConv T s t x h := by
  unfold aConv
  split
  · rfl
  · rfl
  · rw [aElems_same ha]
  · rfl
theorem aIndexAddr_same {T : Tbl} {t : TypeId} {x i : D} {h h2 : List Blk} (ha : Agree (headM x) h h2) : aIndexAddr T t x i h2 = aIndexAddr T t x i h := by
  unfold aIndexAddr
  split
  · rfl
  · split
    · rfl
    · rw [ha.own]
    · rfl
  · rfl

section
variable {R : Nat} {h h' : List Blk} {d : D}
theorem aAlloc_loc {T : Tbl} {ν : Nat} {t : TypeId} (hf : aAlloc T ν t h = some (d, h')) (hl : h'.length = h.length) (hR : R.testBit ν = true) : Loc R true (aAlloc T ν t) h d h' := by
  unfold aAlloc at hf
  split at hf
  · rename_i i hi
    cases hf
    exact Loc.place hl hR fun h2 _ => by simp [aAlloc, hi]
  · cases hf
theorem aBox_loc {ν : Nat} {x : D} (hf : aBox ν x h = some (d, h')) (hl : h'.length = h.length) (hR : R.testBit ν = true) : Loc R true (aBox ν x) h d h' := by
  unfold aBox at hf
  split at hf
  · rename_i i hi
    cases hf
    exact Loc.place hl hR fun h2 _ => by simp [aBox, hi]
  · cases hf
theorem aBuildSlice_loc {T : Tbl} {ν n : Nat} {t : TypeId} {ps : List (Nat × D)} (hf : aBuildSlice T ν t n ps h = some (d, h')) (hl : h'.length = h.length) (hR : R.testBit ν = true) : Loc R true (aBuildSlice T ν t n ps) h d h' := by
  have key : ∃ x, h' = place ν x h ∧ ∀ h2, aBuildSlice T ν t n ps h2 = some (d, place ν x h2) := by
    unfold aBuildSlice at hf
    repeat' split at hf
    all_goals cases hf
    exact ⟨_, rfl, fun h2 => by simp [aBuildSlice, *]⟩
  obtain ⟨x, rfl, hk⟩ := key
  exact Loc.place hl hR fun h2 _ => hk h2
theorem aMake_loc {T : Tbl} {ν : Nat} {t : TypeId} {l c : D} (hf : aMake T ν t l c h = some (d, h')) (hl : h'.length = h.length) (hR : R.testBit ν = true) : Loc R true (aMake T ν t l c) h d h' := by
  have key : ∃ x, h' = place ν x h ∧ ∀ h2, aMake T ν t l c h2 = some (d, place ν x h2) := by
    unfold aMake at hf
    repeat' split at hf
    all_goals cases hf
    exact ⟨_, rfl, fun h2 => by simp [aMake, *]⟩
  obtain ⟨x, rfl, hk⟩ := key
  exact Loc.place hl hR fun h2 _ => hk h2
theorem aConvert_loc {T : Tbl} {ν : Nat} {s t : TypeId} {x : D} (hf : aConvert T ν s t x h = some (d, h')) (hl : h'.length = h.length) : Loc (1 <<< ν ||| headM x) true (aConvert T ν s t x) h d h' := by
  unfold aConvert at hf
  split at hf
  · rename_i e b1 z1 i1 e2 b2 z2 i2 s hs ht
    split at hf
    · cases hf
      exact Loc.place hl (by simp [bit_self]) fun h2 _ => by simp [aConvert, *]
    · cases hf
  · rename_i hno
    simp only [Option.map_eq_some_iff, Prod.mk.injEq] at hf
    obtain ⟨d', hf, rfl, rfl⟩ := hf
    refine Loc.pure fun h2 ha => ?_
    unfold aConvert
    split
    · exact (hno _ _ _ _ _ _ _ _ ‹_› ‹_› rfl).elim
    · rw [aConv_same ha.right, hf]; rfl
theorem aStore_loc {T : Tbl} {t : TypeId} {p x : D} (hf : aStore T t p x h = some h') : Loc (headM p) true (fun h => (aStore T t p x h).map fun h' => (.lit undef, h')) h (.lit undef) h' := by
  have key : ∃ id i j y, p = .ptr id i j ∧ h' = h.set id y ∧ ∀ h2, h2[id]? = h[id]? → aStore T t p x h2 = some (h2.set id y) := by
    unfold aStore at hf
    repeat' split at hf
    all_goals cases hf
    exact ⟨_, _, _, _, rfl, rfl, fun h2 ha => by simp [aStore, *]⟩
  obtain ⟨id, i, j, y, rfl, rfl, hk⟩ := key
  exact Loc.set headM_ptr fun h2 _ ha => by simp [hk h2 ha.ptr]
theorem aClear_loc {T : Tbl} {t : TypeId} {x : D} (hR : ∀ id, (headM x).testBit id = true → R.testBit id = true) (hf : aClear T t x h = some (d, h')) : Loc R true (aClear T t x) h d h' := by
  unfold aClear at hf
  repeat' split at hf
  all_goals cases hf
  · exact Loc.pure fun h2 _ => by simp [aClear, *]
  · exact Loc.set (hR _ headM_own) fun h2 _ ha => by
      have := ha _ (hR _ headM_own)
      simp [aClear, *]
theorem aCopy_loc {T : Tbl} {t t2 : TypeId} {x y : D} (hR : ∀ id, (headM x).testBit id = true → R.testBit id = true) (hR2 : ∀ id, (headM y).testBit id = true → R.testBit id = true) (hf : aCopy T t t2 x y h = some (d, h')) : Loc R true (aCopy T t t2 x y) h d h' := by
  have hs : ∀ n h2, Agree R h h2 → aSource T t2 y n h2 = aSource T t2 y n h := fun n h2 ha => aSource_same fun id hid => ha id (hR2 id hid)
  unfold aCopy at hf
  repeat' split at hf
  all_goals cases hf
  · exact Loc.pure fun h2 ha => by simp [aCopy, hs _ h2 ha, *]
  · exact Loc.set (hR _ headM_own) fun h2 _ ha => by
      have := ha _ (hR _ headM_own)
      simp [aCopy, hs _ h2 ha, *]
theorem aAppend_loc {T : Tbl} {ν : Nat} {t t2 : TypeId} {x y : D} (hν : R.testBit ν = true) (hR : ∀ id, (headM x).testBit id = true → R.testBit id = true) (hR2 : ∀ id, (headM y).testBit id = true → R.testBit id = true) (hf : aAppend T ν t t2 x y h = some (d, h')) (hl : h'.length = h.length) :
    Loc R true (aAppend T ν t t2 x y) h d h' := by
  have hs : ∀ n h2, Agree R h h2 → aSource T t2 y n h2 = aSource T t2 y n h := fun n h2 ha => aSource_same fun id hid => ha id (hR2 id hid)
  have he : ∀ h2, Agree R h h2 → aElems x h2 = aElems x h := fun h2 ha => aElems_same fun id hid => ha id (hR id hid)
  unfold aAppend at hf
  repeat' split at hf
  all_goals cases hf
  · exact Loc.pure fun h2 ha => by simp [aAppend, hs _ h2 ha, he h2 ha, *]
  · exact Loc.place hl hν fun h2 ha => by simp [aAppend, hs _ h2 ha, he h2 ha, *]
  · exact Loc.place hl hν fun h2 ha => by simp [aAppend, hs _ h2 ha, he h2 ha, *]
  · have hl' := hl
    rw [← List.length_set (as := h)] at hl'
    rw [place_set hl']
    exact Loc.set2 (hR _ headM_own) hν fun h2 h2l ha => by
      have := ha _ (hR _ headM_own)
      rw [← place_set' hl' (by simp [h2l])]
      simp [aAppend, hs _ h2 ha, he h2 ha, *]
theorem aExt_loc {T : Tbl} {ν : Nat} {t : TypeId} {x y : D} (hν : R.testBit ν = true) (hR : ∀ id, (headM x).testBit id = true → R.testBit id = true) (hf : aExt T ν t x y h = some (d, h')) (hl : h'.length = h.length) : Loc R true (aExt T ν t x y) h d h' := by
  have he : ∀ h2, Agree R h h2 → aElems x h2 = aElems x h := fun h2 ha => aElems_same fun id hid => ha id (hR id hid)
  unfold aExt at hf
  repeat' split at hf
  all_goals cases hf
  · exact Loc.place hl hν fun h2 ha => by simp [aExt, he h2 ha, *]
  · exact Loc.place hl hν fun h2 ha => by simp [aExt, he h2 ha, *]
theorem aSlice_loc {T : Tbl} {t : TypeId} {x : D} {lo hi mx : Option D} (hf : aSlice T t x lo hi mx h = some (d, h')) : Loc (headM x) (isPtr x) (aSlice T t x lo hi mx) h d h' := by
  cases x with
  | str s =>
    have e : ∀ h2, aSlice T t (.str s) lo hi mx h2 = (aSlice T t (.str s) lo hi mx h).map fun p => (p.1, h2) := fun h2 => by
      cases hT : T t with
      | none => simp [aSlice, hT]
      | some ti =>
        obtain ⟨sz, by_, kind, z⟩ := ti
        cases kind <;> simp only [aSlice, hT] <;> try rfl
        split
        · rfl
        · cases aBound hi s.length s.length <;> simp only [] <;> try rfl
          rename_i hh
          cases aBound lo 0 hh <;> rfl
    have e' : h' = h := by
      have := e h; rw [hf] at this; simp only [Option.map_some, Option.some.injEq, Prod.mk.injEq] at this; exact this.2
    subst e'
    exact Loc.pure fun h2 _ => by rw [e h2, hf]; rfl
  | sl c l =>
    have e : ∀ h2, aSlice T t (.sl c l) lo hi mx h2 = (aSlice T t (.sl c l) lo hi mx h).map fun p => (p.1, h2) := fun h2 => by
      cases hT : T t with
      | none => simp [aSlice, hT]
      | some ti =>
        obtain ⟨sz, by_, kind, z⟩ := ti
        cases kind <;> simp only [aSlice, hT] <;> try rfl
        rename_i e
        by_cases c1 : (mx.isSome && !hi.isSome) = true
        · simp only [c1, if_true]; rfl
        · simp only [c1]
          cases T e <;> cases aBound mx l.length l.length <;> simp only [] <;> try rfl
          rename_i ei m
          cases aBound hi l.length (if mx.isSome = true then m else l.length) <;> simp only [] <;> try rfl
          rename_i hh
          cases aBound lo 0 hh <;> simp only [] <;> try rfl
          rename_i k
          by_cases c2 : k = 0 ∨ headOk l ei.size = true
          · simp only [c2, if_true]; rfl
          · simp only [c2]; rfl
    have e' : h' = h := by
      have := e h; rw [hf] at this; simp only [Option.map_some, Option.some.injEq, Prod.mk.injEq] at this; exact this.2
    subst e'
    exact Loc.pure fun h2 _ => by rw [e h2, hf]; rfl
  | own id off len c =>
    have e : ∀ h2, h2[id]? = h[id]? → aSlice T t (.own id off len c) lo hi mx h2 = (aSlice T t (.own id off len c) lo hi mx h).map fun p => (p.1, h2) := fun h2 ha => by
      cases hT : T t with
      | none => simp [aSlice, hT]
      | some ti =>
        obtain ⟨sz, by_, kind, z⟩ := ti
        cases kind <;> simp only [aSlice, hT] <;> try rfl
        rename_i e
        by_cases c1 : (mx.isSome && !hi.isSome) = true
        · simp only [c1, if_true]; rfl
        · simp only [c1, ha]
          cases T e <;> cases aBound mx len len <;> cases h[id]? <;> (try simp only []) <;> try rfl
          rename_i ei m b
          cases b <;> simp only [] <;> try rfl
          cases aBound hi len (if mx.isSome = true then m else len) <;> simp only [] <;> try rfl
          rename_i hh
          cases aBound lo 0 hh <;> simp only [] <;> try rfl
          split
          · simp
          · split
            · simp
            · split <;> simp
    have e' : h' = h := by
      have := e h rfl; rw [hf] at this; simp at this; exact this
    subst e'
    exact Loc.pure fun h2 ha => by rw [e h2 ha.own, hf]; simp
  | ptr id i j =>
    have key : ∃ y, h' = h.set id y ∧ ∀ h2, h2[id]? = h[id]? → aSlice T t (.ptr id i j) lo hi mx h2 = some (d, h2.set id y) := by
      unfold aSlice at hf
      repeat' split at hf
      all_goals first
        | contradiction
        | (rename_i hp _ _ _ _ _ _ _ _ _ _ _ _ _ _; cases hp; cases hf; exact ⟨_, rfl, fun h2 ha => by
            have q := ‹_ ∧ _ ∧ _›
            simp [aSlice, *]
            have := q.2.2
            simpa [this] using q.1⟩)
    obtain ⟨y, rfl, hk⟩ := key
    exact Loc.set headM_ptr fun h2 _ ha => hk h2 ha.ptr
  | _ =>
    unfold aSlice at hf
    split at hf <;> contradiction
end

theorem foldM_bit {ρ : Operand → D} {id : Nat} : ∀ (l : List Operand) (m : Nat), (m.testBit id = true ∨ ∃ x ∈ l, (headM (norm (ρ x))).testBit id = true) → (l.foldl (fun m x => m ||| headM (norm (ρ x))) m).testBit id = true
  | [], m, h => by
    rcases h with h | ⟨x, hx, _⟩
    · exact h
    · cases hx
  | y :: l, m, h => by
    refine foldM_bit l _ ?_
    rcases h with h | ⟨x, hx, h⟩
    · exact .inl (by simp [h])
    · rcases List.mem_cons.1 hx with rfl | hx
      · exact .inl (by simp [h])
      · exact .inr ⟨x, hx, h⟩

theorem pureOp_same {T : Tbl} {ρ : Operand → D} {op : Op} (h3 : ∀ t a, op ≠ .load t a) (h4 : ∀ t x i, op ≠ .indexAddr t x i) (h h2 : List Blk) : pureOp T ρ h2 op = pureOp T ρ h op := by
  cases op with
  | load t a => exact (h3 _ _ rfl).elim
  | indexAddr t x i => exact (h4 _ _ _ rfl).elim
  | makeFunc f a b => cases f <;> rfl
  | call c =>
    obtain ⟨callee, args, tys⟩ := c
    cases callee with
    | builtin b => cases b <;> rfl
    | value f => rfl
    | invoke r m => rfl
  | _ => rfl
theorem opVal_loc {W : Wd} {r : R} {ν : Nat} {ρ : Operand → D} {h h' : List Blk} {op : Op} {d : D} (hf : opVal W r ν ρ h op = some (d, h')) (hl : h'.length = h.length) :
    Loc (opFoot ν ρ h.length op).1 (opFoot ν ρ h.length op).2 (fun h => opVal W r ν ρ h op) h d h' := by
  unfold opVal at hf
  split at hf
  · rename_i d' hp
    cases hf
    refine Loc.pure fun h2 ha => ?_
    have : pureOp W.T ρ h2 op = some d := by
      cases op with
      | load t a =>
        simp only [pureOp] at hp ⊢
        unfold aLoad at hp ⊢
        rw [aView_same ha]
        exact hp
      | indexAddr t x i =>
        simp only [pureOp] at hp ⊢
        rw [aIndexAddr_same ha]
        exact hp
      | _ => rw [pureOp_same (by simp) (by simp) h h2]; exact hp
    simp [opVal, this]
  · rename_i hp
    have hpn : ∀ h2, (∀ t a, op ≠ .load t a) → (∀ t x i, op ≠ .indexAddr t x i) → pureOp W.T ρ h2 op = none := fun h2 h3 h4 => by
      rw [pureOp_same h3 h4 h h2]; exact hp
    split at hf
    · rename_i p hm
      cases hf
      have lift : (∀ t a, op ≠ .load t a) → (∀ t x i, op ≠ .indexAddr t x i) → Loc (opFoot ν ρ h.length op).1 (opFoot ν ρ h.length op).2 (fun h => memOp W.T ν ρ h op) h d h' → Loc (opFoot ν ρ h.length op).1 (opFoot ν ρ h.length op).2 (fun h => opVal W r ν ρ h op) h d h' := fun h3 h4 H =>
        ⟨H.off, fun h2 h2l ha => by
          obtain ⟨h2', e1, e2⟩ := H.same h2 h2l ha
          exact ⟨h2', by simp [opVal, hpn h2 h3 h4, show memOp W.T ν ρ h2 op = _ from e1], e2⟩⟩
      cases op with
      | alloc e => exact lift (by simp) (by simp) (aAlloc_loc hm hl (bit_self ν))
      | box t x => exact lift (by simp) (by simp) (aBox_loc hm hl (bit_self ν))
      | buildSlice t n parts => exact lift (by simp) (by simp) (aBuildSlice_loc hm hl (bit_self ν))
      | makeSlice t l c => exact lift (by simp) (by simp) (aMake_loc hm hl (bit_self ν))
      | store t p x =>
        simp only [memOp, Option.map_eq_some_iff, Prod.mk.injEq] at hm
        obtain ⟨h2, ha, rfl, rfl⟩ := hm
        exact lift (by simp) (by simp) (aStore_loc ha)
      | convert s t x => exact lift (by simp) (by simp) (aConvert_loc hm hl)
      | slice t x lo hi mx => exact lift (by simp) (by simp) (aSlice_loc hm)
      | call c =>
        refine lift (by simp) (by simp) ?_
        obtain ⟨callee, args, tys⟩ := c
        cases callee with
        | builtin b =>
          cases b <;> simp only [memOp] at hm <;> try (cases hm; done)
          case append =>
            simp only [memOp, opFoot]
            split at hm
            · rename_i x y t t2 e1 e2
              simp only [e1, e2]
              by_cases hi2 : isIntT W.T t2 = true
              · simp only [hi2, if_true] at hm ⊢
                exact aExt_loc (by simp [bit_self]) (fun id hid => by simp [hid]) hm hl
              · simp only [hi2, if_false, Bool.false_eq_true] at hm ⊢
                exact aAppend_loc (by simp [bit_self]) (fun id hid => by simp [hid]) (fun id hid => by simp [hid]) hm hl
            · cases hm
          case copy =>
            simp only [memOp, opFoot]
            split at hm
            · rename_i x y t t2 e1 e2
              simp only [e1, e2]
              exact aCopy_loc (fun id hid => by simp [hid]) (fun id hid => by simp [hid]) hm
            · cases hm
          case clear =>
            simp only [memOp, opFoot]
            split at hm
            · rename_i x t e1 e2
              simp only [e1, e2]
              exact aClear_loc (fun id hid => by simp [hid]) hm
            · cases hm
        | value f => simp [memOp] at hm
        | invoke r m => simp [memOp] at hm
      | _ => simp [memOp] at hm
    · rename_i hm
      split at hf
      · rename_i f args tys
        have hop : ∀ h2, opVal W r ν ρ h2 (.call { callee := .value f, args := args, argTypes := tys }) = callVal W r ν (ρ f) (args.toList.map ρ) h2 := fun h2 => by simp [opVal, pureOp, memOp]
        simp only [hop]
        show Loc (opFoot ν ρ h.length (.call { callee := .value f, args := args, argTypes := tys })).1 (opFoot ν ρ h.length (.call { callee := .value f, args := args, argTypes := tys })).2 _ h d h'
        simp only [opFoot]
        split
        · rename_i g a b hg
          split
          · rename_i hall
            rw [hg] at hf ⊢
            have hc : ∀ h2, callVal W r ν (.fn g a b) (args.toList.map ρ) h2 = (quietCall W r g (a ++ args.toList.map ρ ++ b)).map (QR.app ν h2) := fun h2 => by simp only [callVal]; rw [if_pos hall]
            simp only [hc] at hf ⊢
            simp only [Option.map_eq_some_iff] at hf
            obtain ⟨q, hq, hd⟩ := hf
            simp only [hq, Option.map_some]
            cases q with
            | val x => cases hd; exact Loc.pure fun _ _ => rfl
            | new off len clip x => cases hd; exact Loc.place hl (bit_self ν) fun _ _ => rfl
          · exact Loc.all hf hl
        · exact Loc.all hf hl
      · cases hf
/-! ### Two masks: what is read, what is written -/
structure Loc2 (R Wm : Nat) (f : List Blk → Option (D × List Blk)) (h : List Blk) (d : D) (h' : List Blk) : Prop where
  off : ∀ id, Wm.testBit id = false → h'[id]? = h[id]?
  same : ∀ h2, h2.length = h.length → Agree R h h2 → ∃ h2', f h2 = some (d, h2') ∧ h2'.length = h2.length ∧ (∀ id, Wm.testBit id = true → h2'[id]? = h'[id]?) ∧ (∀ id, Wm.testBit id = false → h2'[id]? = h2[id]?)
theorem Loc.two {R : Nat} {wr : Bool} {f : List Blk → Option (D × List Blk)} {h h' : List Blk} {d : D} (H : Loc R wr f h d h') : Loc2 R (if wr then R else 0) f h d h' := by
  have e : ∀ id, (if wr then R else 0).testBit id = (wr && R.testBit id) := fun id => by cases wr <;> simp
  exact ⟨fun id hid => H.off id (by rw [← e]; exact hid), fun h2 hl ha => by
    obtain ⟨h2', a, b, c, d⟩ := H.same h2 hl ha
    exact ⟨h2', a, b, fun id hid => c id (by rw [← e]; exact hid), fun id hid => d id (by rw [← e]; exact hid)⟩⟩
theorem mask_same {m : Nat} {h h2 : List Blk} (hl : h2.length = h.length) (ha : Agree m h h2) : mask m h2 = mask m h := by
  refine List.ext_getElem? fun i => ?_
  rw [mask_get, mask_get]
  by_cases hb : m.testBit i = true
  · rw [ha i hb]
  · simp only [hb]
    by_cases hi : i < h.length
    · have : i < h2.length := by omega
      simp [hi, this]
    · rw [List.getElem?_eq_none (by omega), List.getElem?_eq_none (by omega)]
theorem closM_le : ∀ (k m : Nat) (h : List Blk) (i : Nat), m.testBit i = true → (closM k m h).testBit i = true
  | 0, _, _, _, h => h
  | k + 1, m, h, i, hi => closM_le k _ h i (by simp [hi])
theorem contM_same {m : Nat} : ∀ (h h2 : List Blk) (i : Nat), h2.length = h.length → (∀ j, m.testBit (i + j) = true → h2[j]? = h[j]?) → contM m i h2 = contM m i h
  | [], [], _, _, _ => rfl
  | [], _ :: _, _, hl, _ => by simp at hl
  | _ :: _, [], _, hl, _ => by simp at hl
  | x :: h, y :: h2, i, hl, ha => by
    simp only [contM]
    rw [contM_same h h2 (i + 1) (by simpa using hl) (fun j hj => by
      have := ha (j + 1) (by rwa [show i + (j + 1) = i + 1 + j by omega])
      simpa using this)]
    by_cases hb : m.testBit i = true
    · have := ha 0 hb
      simp at this
      rw [this]
    · simp [hb]
theorem closM_same {h h2 : List Blk} (hl : h2.length = h.length) : ∀ (k m : Nat), Agree (closM k m h) h h2 → closM k m h2 = closM k m h
  | 0, _, _ => rfl
  | k + 1, m, ha => by
    simp only [closM] at ha ⊢
    have e : contM m 0 h2 = contM m 0 h := contM_same h h2 0 hl fun j hj => ha j (closM_le k _ h j (by simp at hj; simp [hj]))
    rw [e]
    exact closM_same hl k _ ha
theorem idsM_same {as : List D} {h h2 : List Blk} (hl : h2.length = h.length) (ha : Agree (idsM as h) h h2) : idsM as h2 = idsM as h := closM_same hl 3 _ ha
/-- What a call of a function value looks at and turns: nothing of the caller's; what its arguments name; or all. -/
def callFoot (W : Wd) (ν n : Nat) (h : List Blk) (f : D) (args : List D) : Nat × Nat :=
  match f with
  | .fn g a b =>
    if (a ++ args ++ b).all D.free then (1 <<< ν, 1 <<< ν)
    else if W.gen g then (1 <<< n - 1, 1 <<< n - 1)
    else if (fins (mask (idsM (a ++ args ++ b) h) h) (a ++ args ++ b)).isSome then
      (if (a ++ args ++ b).any D.ptr1 then (idsM (a ++ args ++ b) h ||| 1 <<< ν, 1 <<< ν) else (idsM (a ++ args ++ b) h ||| 1 <<< ν, idsM (a ++ args ++ b) h ||| 1 <<< ν))
    else (1 <<< n - 1, 1 <<< n - 1)
  | _ => (1 <<< n - 1, 1 <<< n - 1)
def foot2 (W : Wd) (ν : Nat) (ρ : Operand → D) (h : List Blk) (op : Op) : Nat × Nat :=
  match op with
  | .call { callee := .value f, args, .. } => callFoot W ν h.length h (ρ f) (args.toList.map ρ)
  | op => let p := opFoot ν ρ h.length op; (p.1, if p.2 then p.1 else 0)
def R.drawn (r : R) : R := { r with dr := true }
theorem drawn_rok {P : Program} {W : Wd} {r : R} (hr : ROk P W r) : ROk P W r.drawn := ⟨hr.run, hr.call, hr.quiet⟩
/-- In a drawn region: a call that could read out what it names does so, or does not go. -/
def dVal (W : Wd) (r : R) (ν : Nat) (ρ : Operand → D) (h : List Blk) (op : Op) : Option (D × List Blk) := opVal W r.drawn ν ρ h op
theorem opVal_call {W : Wd} {r : R} {ν : Nat} {ρ : Operand → D} {h : List Blk} {f : Operand} {args : Array Operand} {tys : Array TypeId} : opVal W r ν ρ h (.call { callee := .value f, args := args, argTypes := tys }) = callVal W r ν (ρ f) (args.toList.map ρ) h := by simp [opVal, pureOp, memOp]
theorem Loc2.all {f : List Blk → Option (D × List Blk)} {h h' : List Blk} {d : D} (hf : f h = some (d, h')) (hl : h'.length = h.length) : Loc2 (1 <<< h.length - 1) (1 <<< h.length - 1) f h d h' := (Loc.all hf hl).two
theorem Loc2.app {R Wm ν : Nat} {q : QR} {T : List Blk → List Blk} {f : List Blk → Option (D × List Blk)} {h : List Blk} (t1 : ∀ h, (T h).length = h.length) (t3 : ∀ (h h2 : List Blk) (id : Nat), h2[id]? = h[id]? → (T h2)[id]? = (T h)[id]?)
    (w1 : ∀ (h : List Blk) (id : Nat), Wm.testBit id = false → (T h)[id]? = h[id]?) (w2 : Wm.testBit ν = true) (w3 : ∀ id, Wm.testBit id = true → R.testBit id = true)
    (hf : ∀ h2, h2.length = h.length → Agree R h h2 → f h2 = some (q.app ν (T h2))) (hl : (q.app ν (T h)).2.length = h.length) : Loc2 R Wm f h (q.app ν (T h)).1 (q.app ν (T h)).2 := by
  cases q with
  | val x => exact ⟨fun id hid => w1 h id hid, fun h2 h2l ha => ⟨T h2, hf h2 h2l ha, t1 h2, fun id hid => t3 h h2 id (ha id (w3 id hid)), fun id hid => w1 h2 id hid⟩⟩
  | new off len clip x =>
    simp only [QR.app] at hl hf ⊢
    have hl0 : (place ν x (T h)).length = (T h).length := by rw [hl, t1]
    rw [place_set hl0]
    refine ⟨fun id hid => ?_, fun h2 h2l ha => ⟨(T h2).set ν x, ?_, by simp [t1], fun id hid => ?_, fun id hid => ?_⟩⟩
    · have : ν ≠ id := fun e => by subst e; rw [w2] at hid; cases hid
      rw [List.getElem?_set_ne this]; exact w1 h id hid
    · rw [hf h2 h2l ha, place_set' hl0 (by rw [t1, t1, h2l])]
    · rw [List.getElem?_set, List.getElem?_set, t1, t1, h2l]
      split
      · rfl
      · exact t3 h h2 id (ha id (w3 id hid))
    · have : ν ≠ id := fun e => by subst e; rw [w2] at hid; cases hid
      rw [List.getElem?_set_ne this]; exact w1 h2 id hid
theorem dVal_loc {W : Wd} {r : R} {ν : Nat} {ρ : Operand → D} {h h' : List Blk} {op : Op} {d : D} (hf : dVal W r ν ρ h op = some (d, h')) (hl : h'.length = h.length) :
    Loc2 (foot2 W ν ρ h op).1 (foot2 W ν ρ h op).2 (fun h => dVal W r ν ρ h op) h d h' := by
  cases op with
  | call c =>
    obtain ⟨callee, args, tys⟩ := c
    cases callee with
    | value f =>
      simp only [dVal, opVal_call, foot2] at hf ⊢
      generalize ρ f = fd at *
      generalize args.toList.map ρ = as at *
      cases fd with
      | fn g a b =>
        simp only [callFoot] at hf ⊢
        by_cases hfree : (a ++ as ++ b).all D.free = true
        · simp only [hfree, if_true] at hf ⊢
          have hc : ∀ h2, callVal W r.drawn ν (.fn g a b) as h2 = (quietCall W r.drawn g (a ++ as ++ b)).map (QR.app ν h2) := fun h2 => by simp only [callVal]; rw [if_pos hfree]
          simp only [hc] at hf ⊢
          simp only [Option.map_eq_some_iff] at hf
          obtain ⟨q, hq, hd⟩ := hf
          simp only [hq, Option.map_some]
          cases q with
          | val x => cases hd; exact (Loc.pure (wr := true) fun _ _ => rfl).two
          | new off len clip x => cases hd; exact (Loc.place hl (bit_self ν) fun _ _ => rfl).two
        · simp only [hfree, if_false, Bool.false_eq_true] at hf ⊢
          by_cases hgen : W.gen g = true
          · simp only [hgen, if_true]
            exact Loc2.all (f := fun h => callVal W r.drawn ν (.fn g a b) as h) hf hl
          simp only [hgen, if_false, Bool.false_eq_true]
          cases hfin : fins (mask (idsM (a ++ as ++ b) h) h) (a ++ as ++ b) with
          | some as' =>
            have hval : ∀ h2, h2.length = h.length → Agree (idsM (a ++ as ++ b) h) h h2 → callVal W r.drawn ν (.fn g a b) as h2 = match quietCall W r.drawn g as' with
                | some q => if q.scalar then some (q.app ν h2) else if (a ++ as ++ b).any D.ptr1 then none else some (q.app ν (freezeM (idsM (a ++ as ++ b) h) h2))
                | none => none := fun h2 h2l ha => by
              simp only [callVal]
              rw [if_neg hfree, if_neg hgen, idsM_same h2l ha, mask_same h2l ha, hfin]
              rfl
            rw [hval h rfl (fun _ _ => rfl)] at hf
            simp only [Option.isSome_some, if_true]
            cases hq : quietCall W r.drawn g as' with
            | none => rw [hq] at hf; cases hf
            | some q =>
              rw [hq] at hf
              simp only at hf
              by_cases hsc : q.scalar = true
              · simp only [hsc, if_true, Option.some.injEq] at hf
                have e1 : d = (q.app ν (id h)).1 := by rw [id, hf]
                have e2 : h' = (q.app ν (id h)).2 := by rw [id, hf]
                subst e1 e2
                split
                · refine Loc2.app (T := id) (fun _ => rfl) (fun _ _ _ h => h) (fun _ _ _ => rfl) (bit_self ν) (fun id hid => by simp [hid]) (fun h2 h2l ha => ?_) hl
                  rw [hval h2 h2l ha.left, hq]
                  simp only [hsc, if_true, id]
                · refine Loc2.app (T := id) (fun _ => rfl) (fun _ _ _ h => h) (fun _ _ _ => rfl) (by simp [bit_self]) (fun id hid => hid) (fun h2 h2l ha => ?_) hl
                  rw [hval h2 h2l ha.left, hq]
                  simp only [hsc, if_true, id]
              · by_cases hp : (a ++ as ++ b).any D.ptr1 = true
                · simp only [hsc, hp, if_true, if_false, Bool.false_eq_true] at hf; cases hf
                · simp only [hsc, hp, if_false, Bool.false_eq_true, Option.some.injEq] at hf
                  have e1 : d = (q.app ν (freezeM (idsM (a ++ as ++ b) h) h)).1 := by rw [hf]
                  have e2 : h' = (q.app ν (freezeM (idsM (a ++ as ++ b) h) h)).2 := by rw [hf]
                  subst e1 e2
                  simp only [hp, if_false, Bool.false_eq_true]
                  refine Loc2.app (T := freezeM (idsM (a ++ as ++ b) h)) freezeM_len (fun h h2 id he => by rw [freezeM_get, freezeM_get, he]) (fun h3 id hid => ?_) (by simp [bit_self]) (fun id hid => hid) (fun h2 h2l ha => ?_) hl
                  · rw [freezeM_get]
                    have : (idsM (a ++ as ++ b) h).testBit id = false := by
                      rw [Nat.testBit_or, Bool.or_eq_false_iff] at hid; exact hid.1
                    simp only [this, Bool.false_eq_true, if_false]
                    exact Option.map_id'
                  · rw [hval h2 h2l ha.left, hq]
                    simp only [hsc, hp, if_false, Bool.false_eq_true]
          | none =>
            simp only [Option.isSome_none, if_false, Bool.false_eq_true]
            exact Loc2.all (f := fun h => callVal W r.drawn ν (.fn g a b) as h) hf hl
      | _ => exact Loc2.all hf hl
    | builtin b =>
      have hf' : opVal W r.drawn ν ρ h (.call { callee := .builtin b, args := args, argTypes := tys }) = some (d, h') := hf
      exact (opVal_loc hf' hl).two
    | invoke a b =>
      have hf' : opVal W r.drawn ν ρ h (.call { callee := .invoke a b, args := args, argTypes := tys }) = some (d, h') := hf
      exact (opVal_loc hf' hl).two
  | _ =>
    have hf' := hf
    simp only [dVal] at hf'
    exact (opVal_loc hf' hl).two
end Go.Xa
