/- A region whose order is drawn: two operations change places. -/
import Derived.Test.YtdiajbbcjndhjaaGreatDoorXQ
namespace Go.Xa
open Go.RowKit

theorem pureOp_congr {T : Tbl} {ρ ρ' : Operand → D} {h : List Blk} {op : Op} (he : ∀ x ∈ op.operands, ρ x = ρ' x) : pureOp T ρ h op = pureOp T ρ' h op := by
  have l1 : ∀ l : List Operand, (∀ x ∈ l, ρ x = ρ' x) → l.map ρ = l.map ρ' := fun l hl => List.map_congr_left hl
  cases op with
  | build t ps =>
    simp only [pureOp]
    rw [List.map_congr_left (l := ps.toList) (g := fun p => (p.1, ρ' p.2)) fun p hp => by rw [he p.2 (by simp only [Op.operands, List.mem_toArray]; exact List.mem_map.2 ⟨p, hp, rfl⟩)]]
  | makeFunc f a b =>
    cases f <;> simp only [pureOp]
    rw [l1 a.toList fun x hx => he x (by simp only [Op.operands]; exact Array.mem_append.2 (.inl (by simpa using hx))), l1 b.toList fun x hx => he x (by simp only [Op.operands]; exact Array.mem_append.2 (.inr (by simpa using hx)))]
  | call c =>
    obtain ⟨callee, args, tys⟩ := c
    have hargs : args.toList.map ρ = args.toList.map ρ' := l1 _ fun x hx => he x (by simp only [Op.operands, Call.operands]; exact Array.mem_append.2 (.inr (by simpa using hx)))
    cases callee with
    | builtin b =>
      cases b <;> simp only [pureOp, hargs]
      all_goals
        split
        · rename_i x t e1 e2
          have : ρ x = ρ' x := by rw [e1] at hargs; simpa using hargs
          simp only [this]
        · rfl
    | value f => rfl
    | invoke r m => rfl
  | _ => first
    | rfl
    | (simp only [Op.operands, List.mem_toArray, List.mem_cons, List.not_mem_nil, or_false, forall_eq_or_imp, forall_eq] at he
       simp only [pureOp, he])
theorem memOp_congr {T : Tbl} {ν : Nat} {ρ ρ' : Operand → D} {h : List Blk} {op : Op} (he : ∀ x ∈ op.operands, ρ x = ρ' x) : memOp T ν ρ h op = memOp T ν ρ' h op := by
  have l1 : ∀ l : List Operand, (∀ x ∈ l, ρ x = ρ' x) → l.map ρ = l.map ρ' := fun l hl => List.map_congr_left hl
  cases op with
  | buildSlice t n ps =>
    simp only [memOp]
    rw [List.map_congr_left (l := ps.toList) (g := fun p => (p.1, ρ' p.2)) fun p hp => by rw [he p.2 (by simp only [Op.operands, List.mem_toArray]; exact List.mem_map.2 ⟨p, hp, rfl⟩)]]
  | slice t x lo hi mx =>
    simp only [memOp]
    have e1 : ∀ o : Option Operand, (∀ x ∈ o, ρ x = ρ' x) → o.map ρ = o.map ρ' := fun o ho => by
      cases o with
      | none => rfl
      | some y => simp [ho y rfl]
    rw [he x (by simp [Op.operands]), e1 lo fun y hy => he y (by cases lo <;> simp_all [Op.operands]), e1 hi fun y hy => he y (by cases hi <;> simp_all [Op.operands]), e1 mx fun y hy => he y (by cases mx <;> simp_all [Op.operands])]
  | call c =>
    obtain ⟨callee, args, tys⟩ := c
    have hargs : args.toList.map ρ = args.toList.map ρ' := l1 _ fun x hx => he x (by simp only [Op.operands, Call.operands]; exact Array.mem_append.2 (.inr (by simpa using hx)))
    cases callee with
    | builtin b =>
      cases b <;> simp only [memOp]
      all_goals
        split
        · rename_i e1 e2
          rw [e1] at hargs
          simp at hargs
          simp only [hargs]
        · rfl
    | value f => rfl
    | invoke r m => rfl
  | _ => first
    | rfl
    | (simp only [Op.operands, List.mem_toArray, List.mem_cons, List.not_mem_nil, or_false, forall_eq_or_imp, forall_eq] at he
       simp only [memOp, he])
theorem opVal_congr {W : Wd} {r : R} {ν : Nat} {ρ ρ' : Operand → D} {h : List Blk} {op : Op} (he : ∀ x ∈ op.operands, ρ x = ρ' x) : opVal W r ν ρ h op = opVal W r ν ρ' h op := by
  unfold opVal
  rw [pureOp_congr he, memOp_congr he]
  split
  · rfl
  · split
    · rfl
    · split
      · rename_i f args tys _ _
        have l1 : args.toList.map ρ = args.toList.map ρ' := List.map_congr_left fun x hx => he x (by simp only [Op.operands, Call.operands]; exact Array.mem_append.2 (.inr (by simpa using hx)))
        rw [l1, he f (by simp [Op.operands, Call.operands])]
      · rfl
theorem opFoot_congr {ν n : Nat} {ρ ρ' : Operand → D} {op : Op} (he : ∀ x ∈ op.operands, ρ x = ρ' x) : opFoot ν ρ n op = opFoot ν ρ' n op := by
  cases op with
  | call c =>
    obtain ⟨callee, args, tys⟩ := c
    have ha : ∀ x ∈ args.toList, ρ x = ρ' x := fun x hx => he x (by simp only [Op.operands, Call.operands]; exact Array.mem_append.2 (.inr (by simpa using hx)))
    have hargs : args.toList.map ρ = args.toList.map ρ' := List.map_congr_left ha
    have hf : ∀ (l : List Operand) (m : Nat), (∀ x ∈ l, ρ x = ρ' x) → l.foldl (fun m x => m ||| headM (norm (ρ x))) m = l.foldl (fun m x => m ||| headM (norm (ρ' x))) m := by
      intro l
      induction l with
      | nil => intros; rfl
      | cons y l ih => intro m hl; simp only [List.foldl_cons]; rw [hl y (by simp)]; exact ih _ fun x hx => hl x (by simp [hx])
    cases callee with
    | builtin b => cases b <;> simp only [opFoot, hf _ _ ha]
    | value f =>
      simp only [opFoot, hargs, he f (by simp [Op.operands, Call.operands])]
    | invoke r m => rfl
  | slice t x lo hi mx => simp only [opFoot, he x (by simp [Op.operands])]
  | _ => first
    | rfl
    | (simp only [Op.operands, List.mem_toArray, List.mem_cons, List.not_mem_nil, or_false, forall_eq_or_imp, forall_eq] at he
       simp only [opFoot, he])

theorem dVal_congr {W : Wd} {r : R} {ν : Nat} {ρ ρ' : Operand → D} {h : List Blk} {op : Op} (he : ∀ x ∈ op.operands, ρ x = ρ' x) : dVal W r ν ρ h op = dVal W r ν ρ' h op := opVal_congr (W := W) (r := r.drawn) (ν := ν) (h := h) he
theorem foot2_congr {W : Wd} {ν : Nat} {h : List Blk} {ρ ρ' : Operand → D} {op : Op} (he : ∀ x ∈ op.operands, ρ x = ρ' x) : foot2 W ν ρ h op = foot2 W ν ρ' h op := by
  cases op with
  | call c =>
    obtain ⟨callee, args, tys⟩ := c
    cases callee with
    | value f =>
      have hargs : args.toList.map ρ = args.toList.map ρ' := List.map_congr_left fun x hx => he x (by simp only [Op.operands, Call.operands]; exact Array.mem_append.2 (.inr (by simpa using hx)))
      simp only [foot2, hargs, he f (by simp [Op.operands, Call.operands])]
    | builtin b => simp only [foot2, opFoot_congr he]
    | invoke a b => simp only [foot2, opFoot_congr he]
  | _ => simp only [foot2, opFoot_congr he]
theorem all_same {h h2 : List Blk} (hl : h2.length = h.length) (ha : Agree (1 <<< h.length - 1) h h2) : h2 = h := by
  refine List.ext_getElem? fun id => ?_
  by_cases hid : id < h.length
  · exact ha id (by rw [Nat.one_shiftLeft, Nat.testBit_two_pow_sub_one]; simpa using hid)
  · rw [List.getElem?_eq_none (by omega), List.getElem?_eq_none (by omega)]
theorem foot2_same {W : Wd} {ν : Nat} {ρ : Operand → D} {h h2 : List Blk} {op : Op} (hl : h2.length = h.length) (ha : Agree (foot2 W ν ρ h op).1 h h2) : foot2 W ν ρ h2 op = foot2 W ν ρ h op := by
  have other : (∀ f args tys, op ≠ .call { callee := .value f, args := args, argTypes := tys }) → foot2 W ν ρ h2 op = foot2 W ν ρ h op := fun hno => by
    unfold foot2
    split
    · exact (hno _ _ _ rfl).elim
    · simp only [hl]
  cases op with
  | call c =>
    obtain ⟨callee, args, tys⟩ := c
    cases callee with
    | value f =>
      simp only [foot2] at ha ⊢
      generalize ρ f = fd at *
      generalize args.toList.map ρ = as at *
      cases fd with
      | fn g a b =>
        simp only [callFoot] at ha ⊢
        by_cases hfree : (a ++ as ++ b).all D.free = true
        · simp only [hfree, if_true]
        · simp only [hfree, if_false, Bool.false_eq_true] at ha ⊢
          by_cases hgen : W.gen g = true
          · simp only [hgen, if_true, hl]
          simp only [hgen, if_false, Bool.false_eq_true] at ha ⊢
          by_cases hfin : (fins (mask (idsM (a ++ as ++ b) h) h) (a ++ as ++ b)).isSome = true
          · simp only [hfin, if_true] at ha ⊢
            have ha' : Agree (idsM (a ++ as ++ b) h) h h2 := by
              split at ha
              · exact ha.left
              · exact ha.left
            rw [idsM_same hl ha', mask_same hl ha', if_pos hfin]
          · simp only [hfin, if_false, Bool.false_eq_true] at ha ⊢
            have := all_same hl ha
            subst this
            simp only [hfin, if_false, Bool.false_eq_true]
      | _ => simp only [callFoot, hl]
    | builtin b => exact other (by simp)
    | invoke a b => exact other (by simp)
  | _ => exact other (by simp)

/-! ### One step of a drawn region -/
def isNew : Op → Bool
  | .alloc _ | .box .. | .buildSlice .. | .makeSlice .. | .convert .. => true
  | .call { callee := .builtin .append, .. } => true
  | .call { callee := .value _, .. } => true
  | _ => false
theorem opVal_nu {W : Wd} {r : R} {ν ν' : Nat} {ρ : Operand → D} {h : List Blk} {op : Op} (hn : isNew op = false) : opVal W r ν ρ h op = opVal W r ν' ρ h op := by
  have : memOp W.T ν ρ h op = memOp W.T ν' ρ h op := by
    cases op with
    | call c =>
      obtain ⟨callee, args, tys⟩ := c
      cases callee with
      | builtin b => cases b <;> first | rfl | (simp [isNew] at hn; done)
      | value f => rfl
      | invoke r m => rfl
    | _ => first | rfl | (simp [isNew] at hn; done)
  unfold opVal
  rw [this]
  split
  · rfl
  · split
    · rfl
    · split
      · simp [isNew] at hn
      · rfl

def tmpM : Operand → Nat
  | .tmp t => 1 <<< t
  | _ => 0
def dstM (o : Oper) : Nat := match o.dst with | some t => 1 <<< t | none => 0
def guardM (ops : List Oper) (o : Oper) : Nat :=
  match o.guard with
  | some (j, _) => match (ops[j]?).bind (·.dst) with | some t => 1 <<< t | none => 0
  | none => 0
def lookM (ops : List Oper) (o : Oper) : Nat := o.op.operands.toList.foldl (fun m x => m ||| tmpM x) (guardM ops o)
theorem foldT_bit {t : Nat} : ∀ (l : List Operand) (m : Nat), (m.testBit t = true ∨ Operand.tmp t ∈ l) → (l.foldl (fun m x => m ||| tmpM x) m).testBit t = true
  | [], m, h => by
    rcases h with h | hx
    · exact h
    · cases hx
  | y :: l, m, h => by
    refine foldT_bit l _ ?_
    rcases h with h | hx
    · exact .inl (by simp [h])
    · rcases List.mem_cons.1 hx with rfl | hx
      · exact .inl (by simp [tmpM, bit_self])
      · exact .inr hx

def setT (ts : List D) (dst : Option Nat) (d : D) : List D := match dst with | some t => ts.set t d | none => ts
theorem put_setT (st : St) (dst : Option Nat) (d : D) : st.put dst d = { st with ts := setT st.ts dst d } := by cases dst <;> rfl
theorem ev_setT {G : Nat → D} {ts : List D} {o p : Oper} {ops : List Oper} {d : D} (h : dstM o &&& lookM ops p = 0) : ∀ x ∈ p.op.operands, ev G (setT ts o.dst d) x = ev G ts x := by
  intro x hx
  cases x with
  | tmp t =>
    cases hd : o.dst with
    | none => rfl
    | some u =>
      have hne : u ≠ t := by
        intro e
        subst e
        have h1 : (dstM o).testBit u = true := by simp [dstM, hd, bit_self]
        have h2 : (lookM ops p).testBit u = true := foldT_bit _ _ (.inr (by simpa using hx))
        have := congrArg (·.testBit u) h
        simp [h1, h2] at this
      simp only [setT, ev, List.getD, List.getElem?_set_ne hne]
  | _ => rfl
theorem wanted_setT {ts : List D} {o p : Oper} {ops : List Oper} {d : D} (h : dstM o &&& lookM ops p = 0) : wantedA ops (setT ts o.dst d) p = wantedA ops ts p := by
  unfold wantedA
  cases hg : p.guard with
  | none => rfl
  | some q =>
    obtain ⟨j, want⟩ := q
    simp only
    cases hj : (ops[j]?).bind (·.dst) with
    | none => rfl
    | some t =>
      simp only
      cases hd : o.dst with
      | none => rfl
      | some u =>
        have hne : u ≠ t := by
          intro e
          subst e
          have h1 : (dstM o).testBit u = true := by simp [dstM, hd, bit_self]
          have h2 : (lookM ops p).testBit u = true := foldT_bit _ _ (.inl (by simp [guardM, hg, hj, bit_self]))
          have := congrArg (·.testBit u) h
          simp [h1, h2] at this
        simp only [setT, List.getElem?_set_ne hne]

/-- What an operation yields. -/
def dRes (W : Wd) (r : R) (ops : List Oper) (ν : Nat) (ts : List D) (o : Oper) (h : List Blk) : Option (D × List Blk) :=
  match wantedA ops ts o with
  | some true => dVal W r ν (ev W.G ts) h o.op
  | some false => some (.lit undef, h)
  | none => none
def dFoot (W : Wd) (ops : List Oper) (ν : Nat) (ts : List D) (h : List Blk) (o : Oper) : Nat × Nat :=
  match wantedA ops ts o with
  | some true => foot2 W ν (ev W.G ts) h o.op
  | _ => if isNew o.op then (1 <<< ν, 1 <<< ν) else (0, 0)
def dStep (W : Wd) (r : R) (ops : List Oper) (ν : Nat) (o : Oper) (st : St) : Option St :=
  match dRes W r ops ν st.ts o st.h with
  | some p => if p.2.length = st.h.length then some { st with ts := setT st.ts o.dst p.1, h := p.2 } else none
  | none => none
theorem dStep_op {W : Wd} {r : R} {ops : List Oper} {ν : Nat} {o : Oper} {st st' : St} (h : dStep W r ops ν o st = some st') : opStep W r.drawn ν ops o st = some st' ∧ st'.h.length = st.h.length := by
  unfold dStep dRes at h
  unfold opStep
  cases hw : wantedA ops st.ts o with
  | none => rw [hw] at h; cases h
  | some b =>
    rw [hw] at h
    cases b with
    | false =>
      simp only [if_true] at h
      cases h
      exact ⟨by rw [put_setT], rfl⟩
    | true =>
      simp only at h ⊢
      split at h
      · rename_i p hp
        split at h
        · rename_i hl
          cases h
          rw [show opVal W r.drawn ν (ev W.G st.ts) st.h o.op = some p from hp]
          simp [hl, put_setT]
        · cases h
      · cases h
theorem dRes_loc {W : Wd} {r : R} {ops : List Oper} {ν : Nat} {ts : List D} {o : Oper} {h h' : List Blk} {d : D} (hf : dRes W r ops ν ts o h = some (d, h')) (hl : h'.length = h.length) :
    Loc2 (dFoot W ops ν ts h o).1 (dFoot W ops ν ts h o).2 (dRes W r ops ν ts o) h d h' := by
  unfold dRes at hf
  have e : dRes W r ops ν ts o = fun h => match wantedA ops ts o with | some true => dVal W r ν (ev W.G ts) h o.op | some false => some (.lit undef, h) | none => none := rfl
  rw [e]
  unfold dFoot
  cases hw : wantedA ops ts o with
  | none => rw [hw] at hf; cases hf
  | some b =>
    rw [hw] at hf
    cases b with
    | false =>
      cases hf
      simp only
      split
      · exact (Loc.pure (wr := true) fun _ _ => rfl).two
      · exact (Loc.pure (wr := false) fun _ _ => rfl).two
    | true => exact dVal_loc hf hl
theorem dRes_congr {W : Wd} {r : R} {ops : List Oper} {ν : Nat} {ts : List D} {o p : Oper} {h : List Blk} {d : D} (hm : dstM o &&& lookM ops p = 0) : dRes W r ops ν (setT ts o.dst d) p h = dRes W r ops ν ts p h := by
  unfold dRes
  rw [wanted_setT hm, dVal_congr (ev_setT hm)]
theorem dFoot_congr {W : Wd} {ops : List Oper} {ν : Nat} {h : List Blk} {ts : List D} {o p : Oper} {d : D} (hm : dstM o &&& lookM ops p = 0) : dFoot W ops ν (setT ts o.dst d) h p = dFoot W ops ν ts h p := by
  unfold dFoot
  rw [wanted_setT hm, foot2_congr (ev_setT hm)]
theorem dFoot_same {W : Wd} {ops : List Oper} {ν : Nat} {h h2 : List Blk} {ts : List D} {o : Oper} (hl : h2.length = h.length) (ha : Agree (dFoot W ops ν ts h o).1 h h2) : dFoot W ops ν ts h2 o = dFoot W ops ν ts h o := by
  unfold dFoot at ha ⊢
  split
  · rename_i hw
    rw [hw] at ha
    exact foot2_same hl ha
  · rfl
theorem setT_comm {ts : List D} {o p : Oper} {d e : D} (hm : dstM o &&& dstM p = 0) : setT (setT ts o.dst d) p.dst e = setT (setT ts p.dst e) o.dst d := by
  cases ho : o.dst with
  | none => rfl
  | some t =>
    cases hp : p.dst with
    | none => rfl
    | some u =>
      have hne : t ≠ u := by
        intro e
        subst e
        have h1 : (dstM o).testBit t = true := by simp [dstM, ho, bit_self]
        have h2 : (dstM p).testBit t = true := by simp [dstM, hp, bit_self]
        have := congrArg (·.testBit t) hm
        simp [h1, h2] at this
      simp only [setT]
      exact List.set_comm _ _ hne

/-- Two steps change places. -/
theorem dStep_swap {W : Wd} {r r2 : R} {ops : List Oper} {νi νj Ri Rj Wi Wj : Nat} {oi oj : Oper} {s s1 s2 : St} (m1 : dstM oi &&& lookM ops oj = 0) (m2 : dstM oj &&& lookM ops oi = 0) (m3 : dstM oi &&& dstM oj = 0)
    (f1 : dFoot W ops νi s.ts s.h oi = (Ri, Wi)) (h1 : dStep W r ops νi oi s = some s1) (f2 : dFoot W ops νj s1.ts s1.h oj = (Rj, Wj)) (h2 : dStep W r2 ops νj oj s1 = some s2) (hd1 : Wi &&& Rj = 0) (hd2 : Ri &&& Wj = 0) (hd3 : Wi &&& Wj = 0) :
    ∃ t, dFoot W ops νj s.ts s.h oj = (Rj, Wj) ∧ dStep W r2 ops νj oj s = some t ∧ dFoot W ops νi t.ts t.h oi = (Ri, Wi) ∧ dStep W r ops νi oi t = some s2 ∧
      (∀ id, Wj.testBit id = false → t.h[id]? = s.h[id]?) ∧ (∀ id, Wj.testBit id = true → t.h[id]? = s2.h[id]?) := by
  unfold dStep at h1 h2
  split at h1
  case h_2 => cases h1
  rename_i p hp
  obtain ⟨d, ha⟩ := p
  simp only at h1
  split at h1
  case isFalse => cases h1
  rename_i hla
  cases h1
  split at h2
  case h_2 => cases h2
  rename_i q hq
  obtain ⟨e, hb⟩ := q
  simp only at h2 hq f2
  split at h2
  case isFalse => cases h2
  rename_i hlb
  cases h2
  rw [dRes_congr m1] at hq
  rw [dFoot_congr m1] at f2
  have L1 := dRes_loc hp hla
  have L2 := dRes_loc hq hlb
  rw [f1] at L1
  rw [f2] at L2
  simp only at L1 L2
  have b1 : ∀ id, Rj.testBit id = true → Wi.testBit id = false := fun id hi => by
    have := congrArg (·.testBit id) hd1
    simpa [hi] using this
  have b2 : ∀ id, Ri.testBit id = true → Wj.testBit id = false := fun id hi => by
    have := congrArg (·.testBit id) hd2
    simpa [hi] using this
  have b3 : ∀ id, Wi.testBit id = true → Wj.testBit id = false := fun id hi => by
    have := congrArg (·.testBit id) hd3
    simpa [hi] using this
  have back : Agree Rj ha s.h := fun id hid => (L1.off id (b1 id hid)).symm
  have f2' : dFoot W ops νj s.ts s.h oj = (Rj, Wj) := by
    rw [← f2]
    exact dFoot_same hla.symm (by rw [f2]; exact back)
  -- the second first
  obtain ⟨hc, c1, c2, c3, c4⟩ := L2.same s.h hla.symm back
  have fwd : Agree Ri s.h hc := fun id hid => c4 id (b2 id hid)
  -- then the first
  obtain ⟨he, k1, k2, k3, k4⟩ := L1.same hc c2 fwd
  have hee : he = hb := by
    refine List.ext_getElem? fun id => ?_
    cases hi : Wi.testBit id
    · rw [k4 id hi]
      cases hj : Wj.testBit id
      · rw [c4 id hj, L2.off id hj, L1.off id hi]
      · rw [c3 id hj]
    · rw [k3 id hi]
      exact (L2.off id (b3 id hi)).symm
  subst hee
  refine ⟨{ s with ts := setT s.ts oj.dst e, h := hc }, f2', ?_, ?_, ?_, c4, c3⟩
  · simp only [dStep, c1, c2, if_true]
  · simp only
    rw [dFoot_congr m2, ← f1]
    exact dFoot_same c2 (by rw [f1]; exact fwd)
  · simp only [dStep]
    rw [dRes_congr m2, k1]
    simp only [k2, if_true]
    rw [setT_comm m3]
theorem dFoot_new {W : Wd} {ops : List Oper} {ν : Nat} {h : List Blk} {ts : List D} {o : Oper} (hn : isNew o.op = true) (hν : ν < h.length) : (dFoot W ops ν ts h o).2.testBit ν = true ∧ (dFoot W ops ν ts h o).1.testBit ν = true := by
  have hall : (1 <<< h.length - 1).testBit ν = true := by rw [Nat.one_shiftLeft, Nat.testBit_two_pow_sub_one]; simpa using hν
  have main : (foot2 W ν (ev W.G ts) h o.op).2.testBit ν = true ∧ (foot2 W ν (ev W.G ts) h o.op).1.testBit ν = true := by
    generalize o.op = op at *
    cases op with
    | call c =>
      obtain ⟨callee, args, tys⟩ := c
      cases callee with
      | builtin b =>
        cases b <;> first | (simp [isNew] at hn; done) | skip
        exact ⟨by simp [foot2, opFoot, bit_self], by simp [foot2, opFoot, bit_self]⟩
      | value f =>
        simp only [foot2, callFoot]
        split
        · split
          · exact ⟨bit_self ν, bit_self ν⟩
          split
          · exact ⟨hall, hall⟩
          · split
            · split
              · exact ⟨bit_self ν, by simp [bit_self]⟩
              · exact ⟨by simp [bit_self], by simp [bit_self]⟩
            · exact ⟨hall, hall⟩
        · exact ⟨hall, hall⟩
      | invoke r m => simp [isNew] at hn
    | _ => first | (simp [isNew] at hn; done) | exact ⟨by simp [foot2, opFoot, bit_self], by simp [foot2, opFoot, bit_self]⟩
  unfold dFoot
  split
  · exact main
  · rw [if_pos hn]; exact ⟨bit_self ν, bit_self ν⟩
end Go.Xa
