/- A region whose order is drawn: every order. -/
import Derived.Test.YtdiajbbcjndhjaaGreatDoorXR
namespace Go.Xa
open Go.RowKit

/-- An operation of a drawn region: its number, whom it follows, where it writes and reads (temporaries), what it looks at and what it turns. -/
structure Ent where
  i : Nat
  an : Nat
  dst : Nat
  look : Nat
  foot : Nat
  wr : Nat
def bindsM (o : Oper) : Nat := o.after.toList.foldl (fun m e => if Region.binds .any e then m ||| 1 <<< e.on else m) 0
/-- May the two change places? -/
def Ent.free (x y : Ent) : Bool := x.dst &&& y.look == 0 && y.dst &&& x.look == 0 && x.dst &&& y.dst == 0 && x.wr &&& y.foot == 0 && x.foot &&& y.wr == 0 && x.wr &&& y.wr == 0
def deadAll (h : List Blk) : Bool := h.all fun x => !x.live
def dRun {σ : Type} (W : Wd) (step : Nat → Oper → St → σ → Option (St × σ)) (ops : List Oper) : List Oper → Nat → Nat → List Ent → St → σ → Option (St × σ)
  | [], _, _, _, st, s => some (st, s)
  | o :: os, i, ν, acc, st, s =>
    let m := bindsM o
    let F := dFoot W ops ν st.ts st.h o
    let e : Ent := { i, an := acc.foldl (fun a x => if m.testBit x.i then a ||| x.an else a) m, dst := dstM o, look := lookM ops o, foot := F.1, wr := F.2 }
    let ν' := if isNew o.op then ν + 1 else ν
    if m >>> i == 0 && acc.all (fun x => e.an.testBit x.i || x.free e) then
      match step ν o st s with
      | some (st', s') => if F.2 >>> ν' == 0 || deadAll (st'.h.drop ν') then dRun W step ops os (i + 1) ν' (e :: acc) st' s' else none
      | none => none
    else none
def drawnG {σ : Type} (W : Wd) (step : Nat → Oper → St → σ → Option (St × σ)) (ops : List Oper) (st : St) (s : σ) : Option (St × σ) :=
  dRun W step ops ops 0 st.h.length [] { st with h := st.h ++ List.replicate (ops.countP fun o => isNew o.op) .dead } s
def drawn (W : Wd) (r : R) (ops : List Oper) (st : St) : Option St :=
  match drawnG W (fun ν o st (s : Unit) => match dStep W r ops ν o st with | some st' => some (st', s) | none => none) ops st () with
  | some p => some p.1
  | none => none
/-- A step that says more: right, where what it says holds. -/
def StepR (P : Program) (W : Wd) (ops : List Oper) {σ : Type} (step : Nat → Oper → St → σ → Option (St × σ)) (G : σ → Prop) : Prop :=
  ∀ ν o st s st' s', step ν o st s = some (st', s') → G s' → G s ∧ ∃ r, ROk P W r ∧ dStep W r ops ν o st = some st'

/-- The number of an operation's block. -/
def slot (base : Nat) (ops : List Oper) (k : Nat) : Nat := base + (ops.take k).countP fun o => isNew o.op
def newAt (ops : List Oper) (k : Nat) : Bool := match ops[k]? with | some o => isNew o.op | none => false

def Ent.isOf (W : Wd) (ops : List Oper) (base : Nat) (s : St) (e : Ent) (o : Oper) : Prop :=
  ops[e.i]? = some o ∧ e.dst = dstM o ∧ e.look = lookM ops o ∧ dFoot W ops (slot base ops e.i) s.ts s.h o = (e.foot, e.wr)
/-- The operations in a row, each in its turn. -/
def Runs (P : Program) (W : Wd) (ops : List Oper) (base : Nat) : St → List Ent → St → Prop
  | s, [], s' => s = s'
  | s, e :: l, s' => (∀ k ∈ e :: l, newAt ops k.i = true → s.h[slot base ops k.i]? = some .dead) ∧ ∃ o s1, e.isOf W ops base s o ∧ (∃ r, ROk P W r ∧ dStep W r ops (slot base ops e.i) o s = some s1) ∧ Runs P W ops base s1 l s'

theorem slot_lt {base : Nat} {ops : List Oper} {k k' : Nat} (hn : newAt ops k = true) (h : k < k') : slot base ops k < slot base ops k' := by
  unfold newAt at hn
  split at hn
  · rename_i o ho
    unfold slot
    have hk : k < ops.length := (List.getElem?_eq_some_iff.1 ho).1
    have h1 : (ops.take (k + 1)).countP (fun o => isNew o.op) = (ops.take k).countP (fun o => isNew o.op) + 1 := by
      rw [List.take_add_one, ho]
      simp [List.countP_append, hn]
    have h2 : (ops.take (k + 1)).countP (fun o => isNew o.op) ≤ (ops.take k').countP (fun o => isNew o.op) := by
      apply List.Sublist.countP_le
      exact List.take_sublist_take_left (by omega)
    omega
  · cases hn
theorem slot_ne {base : Nat} {ops : List Oper} {k k' : Nat} (hn : newAt ops k = true) (hn' : newAt ops k' = true) (h : k ≠ k') : slot base ops k ≠ slot base ops k' := by
  rcases Nat.lt_or_gt_of_ne h with g | g
  · have := slot_lt (base := base) hn g; omega
  · have := slot_lt (base := base) hn' g; omega

theorem Runs.swap {P : Program} {W : Wd} {ops : List Oper} {base : Nat} {s s' : St} {x y : Ent} {l : List Ent} (hf : x.free y = true) (h : Runs P W ops base s (x :: y :: l) s') : Runs P W ops base s (y :: x :: l) s' := by
  obtain ⟨d1, ox, s1, ⟨a1, a2, a3, a4⟩, ⟨r1, hr1, st1⟩, d2, oy, s2, ⟨b1, b2, b3, b4⟩, ⟨r2, hr2, st2⟩, hl⟩ := h
  simp only [Ent.free, Bool.and_eq_true, beq_iff_eq] at hf
  obtain ⟨⟨⟨⟨⟨f1, f2⟩, f3⟩, f4⟩, f5⟩, f6⟩ := hf
  rw [a2, b3] at f1
  rw [b2, a3] at f2
  rw [a2, b2] at f3
  obtain ⟨t, c1, c2, c3, c4, c5, c6⟩ := dStep_swap f1 f2 f3 a4 st1 b4 st2 f4 f5 f6
  refine ⟨fun k hk hn => d1 k (by simp at hk ⊢; rcases hk with h | h | h <;> simp [h]) hn, oy, t, ⟨b1, b2, b3, c1⟩, ⟨r2, hr2, c2⟩, fun k hk hn => ?_, ox, s2, ⟨a1, a2, a3, c3⟩, ⟨r1, hr1, c4⟩, hl⟩
  cases hb : y.wr.testBit (slot base ops k.i)
  · rw [c5 _ hb]
    exact d1 k (by simp at hk ⊢; rcases hk with h | h <;> simp [h]) hn
  · rw [c6 _ hb]
    rcases List.mem_cons.1 hk with rfl | hk
    · exfalso
      have hdead := d1 k (by simp) hn
      have hlt := (List.getElem?_eq_some_iff.1 hdead).1
      simp only [newAt, a1] at hn
      obtain ⟨n1, n2⟩ := dFoot_new (W := W) (ops := ops) (ts := s.ts) hn hlt
      rw [a4] at n1 n2
      simp only at n1 n2
      have := congrArg (·.testBit (slot base ops k.i)) f6
      simp [n1, hb] at this
    · cases l with
      | nil => cases hk
      | cons z l => exact hl.1 k hk hn
theorem Runs.bubble {P : Program} {W : Wd} {ops : List Oper} {base : Nat} {y : Ent} {ys : List Ent} {s' : St} : ∀ (xs : List Ent) (s : St), (∀ x ∈ xs, x.free y = true) → Runs P W ops base s (xs ++ y :: ys) s' → Runs P W ops base s (y :: (xs ++ ys)) s'
  | [], _, _, h => h
  | x :: xs, s, hx, h => by
    obtain ⟨d, o, s1, e, st, hr⟩ := h
    have := Runs.bubble xs s1 (fun z hz => hx z (by simp [hz])) hr
    refine Runs.swap (hx x (by simp)) ⟨fun k hk hn => d k ?_ hn, o, s1, e, st, this⟩
    simp at hk ⊢
    rcases hk with h | h | h | h <;> simp [h]

theorem bindsM_bit {o : Oper} {j : Nat} : (bindsM o).testBit j = true ↔ ∃ e ∈ o.after.toList, Region.binds .any e = true ∧ e.on = j := by
  have key : ∀ (l : List Edge) (m : Nat), (l.foldl (fun m e => if Region.binds .any e then m ||| 1 <<< e.on else m) m).testBit j = true ↔ (m.testBit j = true ∨ ∃ e ∈ l, Region.binds .any e = true ∧ e.on = j) := by
    intro l
    induction l with
    | nil => intro m; simp
    | cons e l ih =>
      intro m
      simp only [List.foldl_cons]
      rw [ih]
      by_cases hb : Region.binds .any e = true
      · simp only [hb, if_true]
        have hbit : (m ||| 1 <<< e.on).testBit j = true ↔ (m.testBit j = true ∨ e.on = j) := by
          rw [Nat.testBit_or, Bool.or_eq_true, Nat.one_shiftLeft, Nat.testBit_two_pow, decide_eq_true_eq]
        rw [hbit]
        constructor
        · rintro ((h | h) | ⟨x, hx, h⟩)
          · exact .inl h
          · exact .inr ⟨e, by simp, hb, h⟩
          · exact .inr ⟨x, by simp [hx], h⟩
        · rintro (h | ⟨x, hx, h1, h2⟩)
          · exact .inl (.inl h)
          · rcases List.mem_cons.1 hx with rfl | hx
            · exact .inl (.inr h2)
            · exact .inr ⟨x, hx, h1, h2⟩
      · simp only [hb]
        constructor
        · rintro (h | ⟨x, hx, h⟩)
          · exact .inl h
          · exact .inr ⟨x, by simp [hx], h⟩
        · rintro (h | ⟨x, hx, h1, h2⟩)
          · exact .inl h
          · rcases List.mem_cons.1 hx with rfl | hx
            · exact absurd h1 hb
            · exact .inr ⟨x, hx, h1, h2⟩
  have := key o.after.toList 0
  simpa [bindsM] using this
theorem an_bit {m : Nat} {j : Nat} : ∀ (acc : List Ent) (a : Nat), (acc.foldl (fun a x => if m.testBit x.i then a ||| x.an else a) a).testBit j = true → a.testBit j = true ∨ ∃ x ∈ acc, m.testBit x.i = true ∧ x.an.testBit j = true
  | [], a, h => .inl h
  | x :: acc, a, h => by
    simp only [List.foldl_cons] at h
    rcases an_bit acc _ h with h | ⟨y, hy, h1, h2⟩
    · by_cases hm : m.testBit x.i = true
      · simp only [hm, if_true, Nat.testBit_or, Bool.or_eq_true] at h
        rcases h with h | h
        · exact .inl h
        · exact .inr ⟨x, by simp, hm, h⟩
      · simp only [hm] at h
        exact .inl h
    · exact .inr ⟨y, by simp [hy], h1, h2⟩

theorem slot_succ {base : Nat} {ops : List Oper} {i : Nat} {o : Oper} (ho : ops[i]? = some o) : slot base ops (i + 1) = if isNew o.op then slot base ops i + 1 else slot base ops i := by
  unfold slot
  rw [List.take_add_one, ho]
  simp only [Option.toList_some, List.countP_append, List.countP_singleton]
  split <;> omega
theorem slot_le {base : Nat} {ops : List Oper} {k k' : Nat} (h : k ≤ k') : slot base ops k ≤ slot base ops k' := by
  unfold slot
  have h2 : (ops.take k).countP (fun o => isNew o.op) ≤ (ops.take k').countP (fun o => isNew o.op) := by
    apply List.Sublist.countP_le
    exact List.take_sublist_take_left h
  omega
theorem slot_end {base : Nat} {ops : List Oper} {k : Nat} (hn : newAt ops k = true) : slot base ops k < slot base ops ops.length := by
  have : k < ops.length := by
    unfold newAt at hn
    split at hn
    · rename_i o ho; exact (List.getElem?_eq_some_iff.1 ho).1
    · cases hn
  exact slot_lt hn this
theorem dead_of {x : Blk} (h : (!x.live) = true) : x = .dead := by cases x <;> simp_all [Blk.live]

/-- What an entry of a row is. -/
structure Ent.ok (ops : List Oper) (L : List Ent) (e : Ent) : Prop where
  back : ∀ o, ops[e.i]? = some o → ∀ j, (bindsM o).testBit j = true → j < e.i
  anc : ∀ o, ops[e.i]? = some o → ∀ j, e.an.testBit j = true → (bindsM o).testBit j = true ∨ ∃ x ∈ L, (bindsM o).testBit x.i = true ∧ x.an.testBit j = true
theorem Ent.ok.mono {ops : List Oper} {L L' : List Ent} {e : Ent} (h : e.ok ops L) (hs : ∀ x ∈ L, x ∈ L') : e.ok ops L' :=
  ⟨h.back, fun o ho j hj => (h.anc o ho j hj).imp id fun ⟨x, hx, r⟩ => ⟨x, hs x hx, r⟩⟩

theorem dRun_back {P : Program} {W : Wd} {ops : List Oper} {σ : Type} {step : Nat → Oper → St → σ → Option (St × σ)} {G : σ → Prop} (hstep : StepR P W ops step G) : ∀ (os : List Oper) (i ν : Nat) (acc : List Ent) (st : St) (s : σ) (st' : St) (s' : σ), dRun W step ops os i ν acc st s = some (st', s') → G s' → G s ∧ st.h.length = st'.h.length ∧ st'.rd = st.rd
  | [], i, ν, acc, st, s, st', s', h, hg => by
    simp only [dRun, Option.some.injEq, Prod.mk.injEq] at h
    obtain ⟨rfl, rfl⟩ := h
    exact ⟨hg, rfl, rfl⟩
  | o :: os, i, ν, acc, st, s, st', s', h, hg => by
    unfold dRun at h
    simp only at h
    generalize (if isNew o.op = true then ν + 1 else ν) = ν' at h
    split at h
    case isFalse => cases h
    split at h
    case h_2 => cases h
    rename_i s1 t1 hs1
    split at h
    case isFalse => cases h
    obtain ⟨b0, b1, b2⟩ := dRun_back hstep os _ _ _ s1 t1 st' s' h hg
    obtain ⟨g, r, hr, hd⟩ := hstep _ _ _ _ _ _ hs1 b0
    obtain ⟨h1, h2⟩ := dStep_op hd
    obtain ⟨a1, a2, a3⟩ := opStep_len h1
    exact ⟨g, by omega, b2.trans a3⟩
theorem dRun_runs {P : Program} {W : Wd} {ops : List Oper} {base : Nat} {σ : Type} {step : Nat → Oper → St → σ → Option (St × σ)} {G : σ → Prop} (hstep : StepR P W ops step G) : ∀ (os : List Oper) (i : Nat) (acc : List Ent) (st : St) (s : σ) (st' : St) (s' : σ), ops.drop i = os → dRun W step ops os i (slot base ops i) acc st s = some (st', s') → G s' → st.h.length = slot base ops ops.length → (∀ id, slot base ops i ≤ id → id < st.h.length → st.h[id]? = some .dead) →
    ∃ l : List Ent, l.map (·.i) = List.range' i os.length ∧ Runs P W ops base st l st' ∧ (∀ e ∈ l, e.ok ops (acc ++ l)) ∧ l.Pairwise (fun x y => y.an.testBit x.i = true ∨ x.free y = true) ∧ (∀ e ∈ l, ∀ x ∈ acc, e.an.testBit x.i = true ∨ x.free e = true)
  | [], i, acc, st, s, st', s', hk, h, hg, hl, hd => by
    simp only [dRun, Option.some.injEq, Prod.mk.injEq] at h
    exact ⟨[], rfl, h.1, by simp, .nil, by simp⟩
  | o :: os, i, acc, st, s, st', s', hk, h, hg, hl, hd => by
    have ho : ops[i]? = some o := by
      have := congrArg List.head? hk
      simpa [List.head?_drop] using this
    have hk' : ops.drop (i + 1) = os := by
      have := congrArg List.tail hk
      simpa [List.tail_drop] using this
    unfold dRun at h
    simp only at h
    rw [← slot_succ ho] at h
    split at h
    case isFalse => cases h
    rename_i hc
    split at h
    case h_2 => cases h
    rename_i s1 t1 hs0
    split at h
    case isFalse => cases h
    rename_i hdead
    simp only [Bool.and_eq_true, beq_iff_eq, List.all_eq_true, Bool.or_eq_true] at hc
    obtain ⟨hm, hacc⟩ := hc
    generalize he : ({ i, an := acc.foldl (fun a x => if (bindsM o).testBit x.i then a ||| x.an else a) (bindsM o), dst := dstM o, look := lookM ops o, foot := (dFoot W ops (slot base ops i) st.ts st.h o).1, wr := (dFoot W ops (slot base ops i) st.ts st.h o).2 } : Ent) = e at h hacc
    have hei : e.i = i := by rw [← he]
    have hisof : e.isOf W ops base st o := by rw [← he]; exact ⟨ho, rfl, rfl, rfl⟩
    obtain ⟨gb, _, _⟩ := dRun_back hstep _ _ _ _ _ _ _ _ h hg
    obtain ⟨_, r, hr, hs1⟩ := hstep _ _ _ _ _ _ hs0 gb
    have hs1l := (dStep_op hs1).2
    have hd1 : ∀ id, slot base ops (i + 1) ≤ id → id < s1.h.length → s1.h[id]? = some .dead := by
      intro id h1 h2
      have hle : slot base ops i ≤ slot base ops (i + 1) := slot_le (by omega)
      have hold := hd id (by omega) (by omega)
      have hloc : (dFoot W ops (slot base ops i) st.ts st.h o).2.testBit id = false → s1.h[id]? = st.h[id]? := by
        intro hb
        have hs2 := hs1
        unfold dStep at hs2
        split at hs2
        case h_2 => cases hs2
        rename_i p hp
        split at hs2
        case isFalse => cases hs2
        rename_i hpl
        cases hs2
        exact (dRes_loc (d := p.1) (h' := p.2) hp hpl).off id hb
      simp only [Bool.or_eq_true, beq_iff_eq] at hdead
      rcases hdead with g | g
      · rw [hloc ?_]; exact hold
        have := congrArg (·.testBit (id - slot base ops (i + 1))) g
        simp only [Nat.testBit_shiftRight, Nat.zero_testBit] at this
        rwa [show slot base ops (i + 1) + (id - slot base ops (i + 1)) = id by omega] at this
      · unfold deadAll at g
        rw [List.all_eq_true] at g
        have hx : s1.h[id]? = some s1.h[id] := List.getElem?_eq_getElem h2
        rw [hx]
        congr 1
        refine dead_of (g _ ?_)
        refine List.mem_of_getElem? (i := id - slot base ops (i + 1)) ?_
        rw [List.getElem?_drop, show slot base ops (i + 1) + (id - slot base ops (i + 1)) = id by omega]
        exact hx
    obtain ⟨l, l1, l2, l3, l4, l5⟩ := dRun_runs hstep os (i + 1) (e :: acc) s1 t1 st' s' hk' h hg (by rw [hs1l]; exact hl) hd1
    refine ⟨e :: l, ?_, ⟨fun k hkm hn => ?_, o, s1, hisof, ⟨r, hr, by rw [hei]; exact hs1⟩, l2⟩, fun x hx => ?_, List.Pairwise.cons (fun y hy => l5 y hy e (by simp)) l4, fun x hx y hy => ?_⟩
    · simp only [List.map_cons, l1, hei, List.length_cons, List.range'_succ]
    · have hki : i ≤ k.i := by
        rcases List.mem_cons.1 hkm with rfl | hkm
        · rw [hei]; exact Nat.le_refl _
        · have : k.i ∈ l.map (·.i) := List.mem_map.2 ⟨k, hkm, rfl⟩
          rw [l1] at this
          have := List.mem_range'_1.1 this
          omega
      exact hd _ (slot_le hki) (by rw [hl]; exact slot_end hn)
    · rcases List.mem_cons.1 hx with rfl | hx
      · refine ⟨fun o' ho' j hj => ?_, fun o' ho' j hj => ?_⟩
        · rw [hei, ho] at ho'; cases ho'
          rw [hei]
          rcases Nat.lt_or_ge j i with g | g
          · exact g
          · exfalso
            have := congrArg (·.testBit (j - i)) hm
            simp only [Nat.testBit_shiftRight, Nat.zero_testBit] at this
            rw [show i + (j - i) = j by omega, hj] at this
            cases this
        · rw [hei, ho] at ho'; cases ho'
          rw [← he] at hj
          rcases an_bit acc _ hj with g | ⟨y, hy, g1, g2⟩
          · exact .inl g
          · exact .inr ⟨y, by simp [hy], g1, g2⟩
      · exact (l3 x hx).mono fun y hy => by simp at hy ⊢; rcases hy with h | h | h <;> simp [h]
    · rcases List.mem_cons.1 hx with rfl | hx
      · exact (hacc y hy).imp (fun h => by rw [← he]; exact h) id
      · exact l5 x hx y (by simp [hy])
end Go.Xa
