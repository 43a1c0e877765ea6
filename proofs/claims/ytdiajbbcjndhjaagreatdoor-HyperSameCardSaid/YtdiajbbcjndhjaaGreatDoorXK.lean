/- All operations but calls, together. -/
import Derived.Test.YtdiajbbcjndhjaaGreatDoorXJ
namespace Go.Xa
open Go.RowKit

/-- What an operand stands for. G: what the program's variables hold. -/
def ev (G : Nat → D) (ts : List D) : Operand → D
  | .tmp t => ts.getD t (.lit undef)
  | .const v => absV v
  | .global g => G g
  | .func f => .fn f [] []
def GOk (M : Mem) (G : Nat → D) : Prop := ∀ g, Rep M Bt.none (.pointer (some ⟨g, 0, none⟩)) (G g)
theorem GOk.mono {M M' : Mem} {G : Nat → D} (h : Mle M M') (hg : GOk M G) : GOk M' G := fun g => (hg g).mono h (Ole.refl _)
theorem ev_ok {M : Mem} {β : Bt} {G : Nat → D} {a : Act} {ts : List D} (hg : GOk M G) (ht : TmpsOk M β a.tmps ts) (x : Operand) : Rep M β (a.eval x) (ev G ts x) := by
  cases x with
  | tmp t =>
    simp only [Act.eval, ev, Array.getD_eq_getD_getElem?, List.getD]
    by_cases h : t < ts.length
    · have h' : t < a.tmps.size := by rw [ht.1]; exact h
      exact ht.2 t _ _ (by simp [h']) (by simp [h])
    · have h' : ¬ t < a.tmps.size := by rw [ht.1]; exact h
      simp [h, h', Rep.lit]
  | const v => exact absV_rep M β v
  | global g => exact (hg g).mono (Mle.refl M) (Ole.nil β)
  | func f => exact .fn rfl rfl (by simp) (by simp)

def aOpt (G : Nat → D) (ts : List D) (x : Option Operand) : Option D := x.map (ev G ts)

/-- Operations that make no call and leave the blocks alone. -/
def pureOp (T : Tbl) (ρ : Operand → D) (h : List Blk) : Op → Option D
  | .move x | .assign x => some (ρ x)
  | .pick c a b => match ρ c with | .bool true => some (ρ a) | .bool false => some (ρ b) | _ => none
  | .load t a => aLoad T t (ρ a) h
  | .nilCheck x => match ρ x with | .ptr id i j => some (.ptr id i j) | .pptr l => some (.pptr l) | _ => none
  | .binOp op t x y _ => aBin T op t (ρ x) (ρ y)
  | .unOp op _ x => aUn op (ρ x)
  | .build t parts => aBuild T t (parts.toList.map fun p => (p.1, ρ p.2))
  | .makeFunc (.func f) first captured => some (.fn f (first.toList.map ρ) (captured.toList.map ρ))
  | .fieldAddr s x f => aFieldAddr T s (ρ x) f
  | .field t x f => aField T t (ρ x) f
  | .indexAddr t x i => aIndexAddr T t (norm (ρ x)) (ρ i) h
  | .index t x i => aIndex T t (ρ x) (ρ i)
  | .extract t i => match ρ t with | .tup vs => vs[i]? | _ => none
  | .call { callee := .builtin .len, args, argTypes } => match args.toList, argTypes.toList with | [x], [t] => aLen T t (norm (ρ x)) | _, _ => none
  | .call { callee := .builtin .cap, args, argTypes } => match args.toList, argTypes.toList with | [x], [t] => aCap T t (norm (ρ x)) | _, _ => none
  | .call { callee := .builtin .min, args, .. } => aMin (args.toList.map ρ)
  | .call { callee := .builtin .max, args, .. } => aMax (args.toList.map ρ)
  | _ => none
/-- Operations that may make a block, or turn one. -/
def memOp (T : Tbl) (ν : Nat) (ρ : Operand → D) (h : List Blk) : Op → Option (D × List Blk)
  | .alloc e => aAlloc T ν e h
  | .box _ v => aBox ν (ρ v) h
  | .buildSlice t n parts => aBuildSlice T ν t n (parts.toList.map fun p => (p.1, ρ p.2)) h
  | .store t a v => (aStore T t (ρ a) (ρ v) h).map fun h' => (.lit undef, h')
  | .convert s d x => aConvert T ν s d (norm (ρ x)) h
  | .makeSlice t l c => aMake T ν t (ρ l) (ρ c) h
  | .slice t x lo hi mx => aSlice T t (norm (ρ x)) (lo.map ρ) (hi.map ρ) (mx.map ρ) h
  | .call { callee := .builtin .append, args, argTypes } => match args.toList, argTypes.toList with | [x, y], [t, t2] => (if isIntT T t2 then aExt T ν t (norm (ρ x)) (ρ y) h else aAppend T ν t t2 (norm (ρ x)) (norm (ρ y)) h) | _, _ => none
  | .call { callee := .builtin .copy, args, argTypes } => match args.toList, argTypes.toList with | [x, y], [t, t2] => aCopy T t t2 (norm (ρ x)) (norm (ρ y)) h | _, _ => none
  | .call { callee := .builtin .clear, args, argTypes } => match args.toList, argTypes.toList with | [x], [t] => aClear T t (norm (ρ x)) h | _, _ => none
  | _ => none

theorem repP_map {M : Mem} {β : Bt} {a : Act} {ρ : Operand → D} (hρ : ∀ x, Rep M β (a.eval x) (ρ x)) : ∀ (l : List (Nat × Operand)), RepP M β (l.map fun p => (p.1, a.eval p.2)) (l.map fun p => (p.1, ρ p.2))
  | [] => trivial
  | p :: l => ⟨rfl, hρ p.2, repP_map hρ l⟩
theorem repL_map {M : Mem} {β : Bt} {a : Act} {ρ : Operand → D} (hρ : ∀ x, Rep M β (a.eval x) (ρ x)) (l : List Operand) : RepL M β (l.map a.eval).toArray (l.map ρ) := by
  refine ⟨by simp, fun i v d hv hd => ?_⟩
  simp only [List.getElem?_toArray, List.getElem?_map, Option.map_eq_some_iff] at hv hd
  obtain ⟨x, hx, rfl⟩ := hv
  obtain ⟨y, hy, rfl⟩ := hd
  rw [hx] at hy; cases hy
  exact hρ x
theorem repO_map {M : Mem} {β : Bt} {a : Act} {ρ : Operand → D} (hρ : ∀ x, Rep M β (a.eval x) (ρ x)) (x : Option Operand) : RepO M β (x.map a.eval) (x.map ρ) := by
  cases x with
  | none => trivial
  | some x => exact hρ x

theorem execOp_v {P : Program} {o : Oper} {ρ : Operand → Value} {w w' : World} {v : Value} (s : Sem Value) (he : execOp ρ o = (do pure (.value (← s)))) (h : s.run P w = .ok v w') : (execOp ρ o).run P w = .ok (.value v) w' := by
  rw [he]; simp [h]

theorem args_one {args : Array Operand} {x : Operand} (h : args.toList = [x]) : args = #[x] := by
  apply Array.ext'; simpa using h
theorem args_two {args : Array Operand} {x y : Operand} (h : args.toList = [x, y]) : args = #[x, y] := by
  apply Array.ext'; simpa using h
theorem tys_one {args : Array TypeId} {x : TypeId} (h : args.toList = [x]) : args = #[x] := by
  apply Array.ext'; simpa using h
theorem tys_two {args : Array TypeId} {x y : TypeId} (h : args.toList = [x, y]) : args = #[x, y] := by
  apply Array.ext'; simpa using h

theorem pureOp_ok {P : Program} {T : Tbl} (hT : T.ok P) {M : Mem} {β : Bt} {h : List Blk} {w : World} {o : Oper} {a : Act} {ρ : Operand → D} {d : D} (H : HOk M β h w) (hρ : ∀ x, Rep M β (a.eval x) (ρ x)) (ha : pureOp T ρ h o.op = some d) :
    ∃ v, (execOp a.eval o).run P w = .ok (.value v) w ∧ Rep M β v d := by
  obtain ⟨dst, op, ty, pos, after, guard⟩ := o
  simp only at ha
  cases op with
  | move x => simp only [pureOp, Option.some.injEq] at ha; subst ha; exact ⟨_, rfl, hρ x⟩
  | assign x => simp only [pureOp, Option.some.injEq] at ha; subst ha; exact ⟨_, rfl, hρ x⟩
  | pick c x y =>
    simp only [pureOp] at ha
    have hc := hρ c
    generalize hv : ρ c = dc at *
    split at ha
    · cases ha
      cases hq : a.eval c <;> rw [hq] at hc <;> cases hc
      exact ⟨_, by simp [execOp, hq, asBool], hρ x⟩
    · cases ha
      cases hq : a.eval c <;> rw [hq] at hc <;> cases hc
      exact ⟨_, by simp [execOp, hq, asBool], hρ y⟩
    · cases ha
  | load t p =>
    simp only [pureOp] at ha
    obtain ⟨v, h1, h2⟩ := load_ok (P := P) hT H (hρ p) ha
    exact ⟨v, execOp_v _ rfl h1, h2⟩
  | nilCheck x =>
    simp only [pureOp] at ha
    have hx := hρ x
    generalize hv : ρ x = dx at *
    split at ha
    · cases ha
      generalize hq : a.eval x = vx at *
      cases hx with
      | ptr ho => exact ⟨_, by simp only [execOp, hq]; rfl, .ptr ho⟩
    · cases ha
      generalize hq : a.eval x = vx at *
      cases hx with
      | pptr val hm hr hk => exact ⟨_, by simp only [execOp, hq]; rfl, .pptr val hm hr hk⟩
    · cases ha
  | binOp op t x y ty2 =>
    simp only [pureOp] at ha
    obtain ⟨v, h1, h2⟩ := bin_ok (P := P) (w := w) (ox := x) (oy := y) hT (hρ x) (hρ y) ha
    exact ⟨v, execOp_v _ rfl h1, h2⟩
  | unOp op t x =>
    simp only [pureOp] at ha
    obtain ⟨v, h1, h2⟩ := un_ok (P := P) (w := w) (hρ x) ha
    exact ⟨v, execOp_v _ rfl h1, h2⟩
  | build t parts =>
    simp only [pureOp] at ha
    obtain ⟨v, h1, h2⟩ := build_ok (P := P) (w := w) hT (vs := parts.map fun p => (p.1, a.eval p.2)) (by rw [Array.toList_map]; exact repP_map hρ parts.toList) ha
    exact ⟨v, execOp_v _ rfl h1, h2⟩
  | makeFunc fn first captured =>
    cases fn <;> simp only [pureOp] at ha <;> try (cases ha; done)
    rename_i f
    cases ha
    refine ⟨_, execOp_v (Instr.makeFunc (.func f) (first.map a.eval) (captured.map a.eval)) rfl rfl, ?_⟩
    have e1 := repL_map hρ first.toList
    have e2 := repL_map hρ captured.toList
    have q1 : (first.toList.map a.eval).toArray = first.map a.eval := by apply Array.ext'; simp
    have q2 : (captured.toList.map a.eval).toArray = captured.map a.eval := by apply Array.ext'; simp
    rw [q1] at e1
    rw [q2] at e2
    exact .fn e1.1 e2.1 e1.2 e2.2
  | fieldAddr s x f =>
    simp only [pureOp] at ha
    obtain ⟨v, h1, h2⟩ := fieldAddr_ok (P := P) (w := w) hT (hρ x) ha
    exact ⟨v, execOp_v _ rfl h1, h2⟩
  | field s x f =>
    simp only [pureOp] at ha
    obtain ⟨v, h1, h2⟩ := field_ok (P := P) (w := w) hT (hρ x) ha
    exact ⟨v, execOp_v _ rfl h1, h2⟩
  | indexAddr t x i =>
    simp only [pureOp] at ha
    obtain ⟨v, h1, h2⟩ := indexAddr_ok (P := P) hT H (rep_norm (hρ x)) (hρ i) ha
    exact ⟨v, execOp_v _ rfl h1, h2⟩
  | index t x i =>
    simp only [pureOp] at ha
    obtain ⟨v, h1, h2⟩ := index_ok (P := P) (w := w) hT (hρ x) (hρ i) ha
    exact ⟨v, execOp_v _ rfl h1, h2⟩
  | extract x i =>
    simp only [pureOp] at ha
    have hx := hρ x
    split at ha
    · rename_i vs hq
      rw [hq] at hx
      generalize hv : a.eval x = vx at *
      cases hx with
      | tup hl hr =>
      rename_i us
      have hlt : i < us.size := by rw [hl]; exact (List.getElem?_eq_some_iff.1 ha).1
      exact ⟨us[i], execOp_v (Instr.extract (a.eval x) i) rfl (by simp [hv, Instr.extract, hlt]), hr i _ d (by simp [hlt]) ha⟩
    · cases ha
  | call c =>
    obtain ⟨callee, args, tys⟩ := c
    cases callee with
    | builtin b =>
      cases b <;> simp only [pureOp] at ha <;> try (cases ha; done)
      case len =>
        split at ha
        · rename_i x t e1 e2
          obtain rfl := args_one e1
          obtain rfl := tys_one e2
          obtain ⟨v, h1, h2⟩ := len_ok (P := P) (w := w) (ty := ty) hT (rep_norm (hρ x)) ha
          exact ⟨v, by simp [execOp, resolve, invoke, builtin, h1], h2⟩
        · cases ha
      case cap =>
        split at ha
        · rename_i x t e1 e2
          obtain rfl := args_one e1
          obtain rfl := tys_one e2
          obtain ⟨v, h1, h2⟩ := cap_ok (P := P) (w := w) (ty := ty) hT (rep_norm (hρ x)) ha
          exact ⟨v, by simp [execOp, resolve, invoke, builtin, h1], h2⟩
        · cases ha
      case min =>
        have e1 := repL_map hρ args.toList
        have q1 : (args.toList.map a.eval).toArray = args.map a.eval := by apply Array.ext'; simp
        rw [q1] at e1
        obtain ⟨v, h1, h2⟩ := min_ok (P := P) (w := w) (at_ := tys) (ty := ty) e1 ha
        exact ⟨v, by simp [execOp, resolve, invoke, builtin, h1], h2⟩
      case max =>
        have e1 := repL_map hρ args.toList
        have q1 : (args.toList.map a.eval).toArray = args.map a.eval := by apply Array.ext'; simp
        rw [q1] at e1
        obtain ⟨v, h1, h2⟩ := max_ok (P := P) (w := w) (at_ := tys) (ty := ty) e1 ha
        exact ⟨v, by simp [execOp, resolve, invoke, builtin, h1], h2⟩
    | value f => simp [pureOp] at ha
    | invoke r m => simp [pureOp] at ha
  | _ => simp [pureOp] at ha

theorem memOp_ok {P : Program} {T : Tbl} (hT : T.ok P) {M : Mem} {β : Bt} {h h' : List Blk} {w : World} {ν : Nat} {o : Oper} {a : Act} {ρ : Operand → D} {d : D} (H : HOk M β h w) (hs : Slot β h ν) (hρ : ∀ x, Rep M β (a.eval x) (ρ x)) (ha : memOp T ν ρ h o.op = some (d, h')) :
    ∃ v w' M' β', ((execOp a.eval o).run P w = .ok (.value v) w' ∨ ((execOp a.eval o).run P w = .ok .skip w' ∧ v = undef)) ∧ Rep M' β' v d ∧ HOk M' β' h' w' ∧ Good M β w M' β' w' ∧ ∀ i, i ≠ ν → β' i = β i := by
  obtain ⟨dst, op, ty, pos, after, guard⟩ := o
  simp only at ha
  have lift : ∀ (s : Sem Value), execOp a.eval ⟨dst, op, ty, pos, after, guard⟩ = (do pure (.value (← s))) → OpOk P ν s M β w d h' →
      ∃ v w' M' β', ((execOp a.eval ⟨dst, op, ty, pos, after, guard⟩).run P w = .ok (.value v) w' ∨ ((execOp a.eval ⟨dst, op, ty, pos, after, guard⟩).run P w = .ok .skip w' ∧ v = undef)) ∧ Rep M' β' v d ∧ HOk M' β' h' w' ∧ Good M β w M' β' w' ∧ ∀ i, i ≠ ν → β' i = β i := by
    intro s he hh
    obtain ⟨v, w', M', β', r1, r2, r3, r4⟩ := hh
    exact ⟨v, w', M', β', .inl (execOp_v s he r1), r2, r3, r4⟩
  cases op with
  | alloc e => exact lift _ rfl (alloc_ok hT H hs ha)
  | box t x => exact lift _ rfl (box_ok H hs (hρ x) ha)
  | buildSlice t n parts => exact lift _ rfl (buildSlice_ok hT H hs (by rw [Array.toList_map]; exact repP_map hρ parts.toList) ha)
  | store t p x =>
    simp only [memOp, Option.map_eq_some_iff, Prod.mk.injEq] at ha
    obtain ⟨h2, ha, rfl, rfl⟩ := ha
    obtain ⟨w', r1, r2, r3⟩ := store_ok (P := P) hT H (hρ p) (hρ x) ha
    exact ⟨undef, w', M, β, .inr ⟨by simp [execOp, r1], rfl⟩, .lit, r2, r3, fun _ _ => rfl⟩
  | convert s t x => exact lift _ rfl (convert_ok hT H hs (rep_norm (hρ x)) ha)
  | makeSlice t l c => exact lift _ rfl (make_ok hT H hs (hρ l) (hρ c) ha)
  | slice t x lo hi mx => exact lift _ rfl (slice_ok hT H (rep_norm (hρ x)) (repO_map hρ lo) (repO_map hρ hi) (repO_map hρ mx) ha)
  | call c =>
    obtain ⟨callee, args, tys⟩ := c
    cases callee with
    | builtin b =>
      cases b <;> simp only [memOp] at ha <;> try (cases ha; done)
      case append =>
        split at ha
        · rename_i x y t t2 e1 e2
          obtain rfl := args_two e1
          obtain rfl := tys_two e2
          split at ha
          · rename_i hi2
            refine lift (Builtin.append_ #[t, t2] ty #[a.eval x, a.eval y]) ?_ (ext_ok hT H hs (rep_norm (hρ x)) (hρ y) hi2 ha)
            simp [execOp, resolve, invoke, builtin]
          · refine lift (Builtin.append_ #[t, t2] ty #[a.eval x, a.eval y]) ?_ (append_ok hT H hs (rep_norm (hρ x)) (rep_norm (hρ y)) ha)
            simp [execOp, resolve, invoke, builtin]
        · cases ha
      case copy =>
        split at ha
        · rename_i x y t t2 e1 e2
          obtain rfl := args_two e1
          obtain rfl := tys_two e2
          refine lift (Builtin.copy_ #[t, t2] ty #[a.eval x, a.eval y]) ?_ (copy_ok hT H (rep_norm (hρ x)) (rep_norm (hρ y)) ha)
          simp [execOp, resolve, invoke, builtin]
        · cases ha
      case clear =>
        split at ha
        · rename_i x t e1 e2
          obtain rfl := args_one e1
          obtain rfl := tys_one e2
          refine lift (Builtin.clear_ #[t] ty #[a.eval x]) ?_ (clear_ok hT H (rep_norm (hρ x)) ha)
          simp [execOp, resolve, invoke, builtin]
        · cases ha
    | value f => simp [memOp] at ha
    | invoke r m => simp [memOp] at ha
  | _ => simp [memOp] at ha
end Go.Xa
