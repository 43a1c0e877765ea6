/- Single operations over abstract data, and that the machine's operations follow them: boxes, loads, stores, addresses. -/
import Derived.Test.YtdiajbbcjndhjaaGreatDoorXA
import Derived.DeepKeys
namespace Go.Xa
open Go.RowKit

inductive TK where
  | int (k : IntKind) | bool | str | slice (e : TypeId) | arr (n : Nat) (e : TypeId) | struct (fs : List (Nat × TypeId)) | ptr (e : TypeId) | func | other
  deriving Inhabited
structure TI where
  size : Nat
  bytes : Nat
  kind : TK
  zero : List D
  deriving Inhabited

def absCell : Value → D
  | .int k n => .int k n
  | .bool b => .bool b
  | .string s => .str s.data.toList
  | v => .lit v
def absV : Value → D
  | .agg cs => if cs.toList.all (fun v => v.oneCell') then .agg (cs.toList.map absCell) else .lit (.agg cs)
  | v => absCell v
theorem absCell_rep (M : Mem) (β : Bt) (v : Value) : Rep M β v (absCell v) := by
  unfold absCell
  split
  · exact .int
  · exact .bool
  · exact .str rfl
  · exact .lit
theorem absCell_cell (v : Value) (h : v.oneCell' = true) : (absCell v).cell = true := by
  unfold absCell
  split <;> first | rfl | exact h
/-- The nil slice, as a slice. -/
def norm : D → D
  | .lit (.slice none 0 0) => .sl true []
  | d => d
theorem rep_norm {M : Mem} {β : Bt} {v : Value} {d : D} (h : Rep M β v d) : Rep M β v (norm d) := by
  unfold norm
  split
  · cases h
    exact .sl 0 0 0 (fun _ _ => default) rfl (Nat.le_refl _) (fun _ => rfl) (by simp) (by simp) (by simp) (by simp) (by simp)
  · exact h
theorem absV_rep (M : Mem) (β : Bt) (v : Value) : Rep M β v (absV v) := by
  unfold absV
  split
  · rename_i cs
    split
    · rename_i hall
      refine .agg (by simp) (fun i v d hv hd => ?_) (fun d hd => ?_)
      · simp only [List.getElem?_map, Array.getElem?_toList, hv, Option.map_some, Option.some.injEq] at hd
        subst hd
        exact absCell_rep M β v
      · obtain ⟨v, hv, rfl⟩ := List.mem_map.1 hd
        exact absCell_cell v (List.all_eq_true.1 hall v hv)
    · exact .lit
  · exact absCell_rep M β v

def kindOk (P : Program) : TK → TypeDesc → Prop
  | .int k, .int k' => k = k'
  | .bool, .bool => True
  | .str, .string => True
  | .slice e, .slice e' => e = e'
  | .arr n e, .array n' e' => n = n' ∧ e = e'
  | .struct fs, .struct gs => fs = gs.toList.map fun f => (f.offset, f.type)
  | .ptr e, .pointer e' => e = e'
  | .func, .func _ _ _ => True
  | _, _ => False
abbrev Tbl := TypeId → Option TI
/-- A row of the table says what the program's own says. -/
structure TOk (P : Program) (t : TypeId) (i : TI) : Prop where
  info : ∃ inf z, P.info? t = some inf ∧ inf.size = i.size ∧ inf.bytes = i.bytes ∧ inf.zero = some z ∧ i.zero = z.cells.toList.map absCell ∧ z.cells.size = i.size ∧ (∀ v ∈ z.cells.toList, v.oneCell' = true)
  kind : ∃ d, P.underlying t = some d ∧ kindOk P i.kind d
  held : P.stoodInHeld t = false
  names : ∀ f ∈ P.fieldsOf t, f.name ≠ "_"
  guard : P.eqGuardType P.depth t = false
def Tbl.ok (P : Program) (T : Tbl) : Prop := ∀ t i, T t = some i → TOk P t i
def TK.isAgg : TK → Bool
  | .struct _ | .arr _ _ => true
  | _ => false

section
variable {P : Program} {T : Tbl} (hT : T.ok P) {t : TypeId} {i : TI}
  include hT
theorem run_sizeT (h : T t = some i) (w : World) : (sizeOf t).run P w = .ok i.size w := by
  obtain ⟨inf, z, h1, h2, _⟩ := (hT t i h).info
  simp [sizeOf, typeInfo, h1, h2]
theorem run_infoT (h : T t = some i) (w : World) : ∃ inf, (typeInfo t).run P w = .ok inf w ∧ inf.size = i.size ∧ inf.bytes = i.bytes := by
  obtain ⟨inf, z, h1, h2, h3, _⟩ := (hT t i h).info
  exact ⟨inf, by simp [typeInfo, h1], h2, h3⟩
theorem run_underT (h : T t = some i) (w : World) : ∃ d, (underlying t).run P w = .ok d w ∧ kindOk P i.kind d := by
  obtain ⟨d, h1, h2⟩ := (hT t i h).kind
  exact ⟨d, run_underlying h1 w, h2⟩
theorem run_aggT (h : T t = some i) (w : World) : (isAgg t).run P w = .ok i.kind.isAgg w := by
  obtain ⟨d, h1, h2⟩ := (hT t i h).kind
  simp only [isAgg, Sem.run_bind, run_underlying h1 w, Result.andThen_ok]
  cases hk : i.kind <;> cases d <;> simp_all [kindOk, TK.isAgg]
theorem run_zeroT (h : T t = some i) (w : World) : ∃ z, (zeroValue t).run P w = .ok z w ∧ i.zero = z.cells.toList.map absCell ∧ z.cells.size = i.size ∧ (∀ v ∈ z.cells.toList, v.oneCell' = true) := by
  obtain ⟨inf, z, h1, h2, h3, h4, h5, h6, h7⟩ := (hT t i h).info
  exact ⟨z, by simp [zeroValue, typeInfo, h1, h4], h5, h6, h7⟩
end

/-- What an operation of the machine's yields, and where it leaves everything. -/
def OpOk (P : Program) (ν : Nat) (s : Sem Value) (M : Mem) (β : Bt) (w : World) (d : D) (h' : List Blk) : Prop :=
  ∃ v w' M' β', s.run P w = .ok v w' ∧ Rep M' β' v d ∧ HOk M' β' h' w' ∧ Good M β w M' β' w' ∧ ∀ i, i ≠ ν → β' i = β i
theorem OpOk.pure {P : Program} {ν : Nat} {s : Sem Value} {M : Mem} {β : Bt} {w : World} {d : D} {h : List Blk} {v : Value} (H : HOk M β h w) (hr : s.run P w = .ok v w) (hd : Rep M β v d) : OpOk P ν s M β w d h :=
  ⟨v, w, M, β, hr, hd, H, Good.refl _ _ _, fun _ _ => rfl⟩

/-- The cells of a value. -/
def D.cells : D → Option (List D)
  | .agg cs => some cs
  | d => if d.cell then some [d] else none
theorem Rep.cells {M : Mem} {β : Bt} {v : Value} {d : D} {cs : List D} (h : Rep M β v d) (hc : d.cells = some cs) :
    v.cells.size = cs.length ∧ (∀ (i : Nat) u e, v.cells[i]? = some u → cs[i]? = some e → Rep M β u e) ∧ (∀ e ∈ cs, e.cell = true) := by
  cases h
  case agg hl hk hr => simp only [D.cells, Option.some.injEq] at hc; subst hc; exact ⟨hl, hr, hk⟩
  case undef => simp [D.cells, D.cell] at hc
  case tup => simp [D.cells, D.cell] at hc
  case lit =>
    simp only [D.cells] at hc
    split at hc
    · rename_i hcell
      simp only [Option.some.injEq] at hc
      subst hc
      simp only [D.cell] at hcell
      have : v.cells = #[v] := by cases v <;> simp_all [Value.cells, Value.oneCell']
      rw [this]
      refine ⟨rfl, fun i u e h1 h2 => ?_, fun e he => ?_⟩
      · cases i with
        | zero => simp at h1 h2; subst h1; subst h2; exact .lit
        | succ i => simp at h1
      · simp at he; subst he; exact hcell
    · cases hc
  all_goals
    simp only [D.cells, D.cell, if_true, Option.some.injEq] at hc
    subst hc
    refine ⟨rfl, fun i u e h1 h2 => ?_, fun e he => ?_⟩
    · cases i with
      | zero =>
        simp only [Value.cells, List.getElem?_toArray, List.getElem?_cons_zero, Option.some.injEq] at h1 h2
        subst h1; subst h2
        first
          | exact .int | exact .bool | (exact .str ‹_›) | (exact .sl _ _ _ _ ‹_› ‹_› ‹_› ‹_› ‹_› ‹_› ‹_› ‹_›) | (exact .ptr ‹_›) | (exact .pptr _ ‹_› ‹_› ‹_›) | (exact .own ‹_› ‹_› ‹_› ‹_›)
          | (exact .fn ‹_› ‹_› ‹_› ‹_›) | (exact .yield ‹_›)
      | succ i => simp [Value.cells] at h1
    · simp at he; subst he; rfl

theorem getElem?_single {α : Type} {x y : α} {i : Nat} (h : [x][i]? = some y) : i = 0 ∧ y = x := by
  cases i with
  | zero => simp at h; exact ⟨rfl, h.symm⟩
  | succ i => simp at h

/-- A new variable. -/
theorem ok_newVar {P : Program} {M : Mem} {β : Bt} {h : List Blk} {w : World} {ν : Nat} {t : TypeId} {v : Value} {cs : List D} (H : HOk M β h w) (hs : Slot β h ν)
    (hl : v.cells.size = cs.length) (hr : ∀ (i : Nat) u e, v.cells[i]? = some u → cs[i]? = some e → Rep M β u e) (hk : ∀ e ∈ cs, e.cell = true) :
    OpOk P ν (do pure (.pointer (some (← newVar t v)))) M β w (.ptr ν 0 0) (place ν (.cells [cs] true) h) := by
  let o : Own := ⟨w.heap.size, cs.length, 1⟩
  refine ⟨.pointer (some ⟨w.heap.size, 0, none⟩), w.alloc (.cells v.cells t), M, β.push ν o, by simp [newVar, newRow], ?_, ?_, Good.alloc _ o rfl hs.free, Bt.push_ne β ν _⟩
  · have := Rep.ptr (M := M) (β := β.push ν o) (id := ν) (i := 0) (j := 0) (o := o) (by simp)
    simpa [o] using this
  · refine H.alloc hs _ o rfl _ ?_
    refine ⟨v.cells, t, (0, 0), World.alloc_heap_new w _, by simp [o, hl], by simp, by simp [o], ?_, ?_, ?_⟩
    · intro e he; simp at he; subst he; rfl
    · intro i j e d hi hj
      obtain ⟨rfl, rfl⟩ := getElem?_single hi
      have hj' := (List.getElem?_eq_some_iff.1 hj).1
      refine ⟨hk d (List.mem_of_getElem? hj), v.cells[j]'(by omega), by simp [o], ?_⟩
      exact (hr j _ d (by simp) hj).mono (Mle.refl M) (Ole.push o hs.free)
    · simp only [if_true]
      exact H.none_of_ge (Nat.le_refl _)

def aBox (ν : Nat) (x : D) (h : List Blk) : Option (D × List Blk) :=
  match x.cells with
  | some cs => some (.ptr ν 0 0, place ν (.cells [cs] true) h)
  | none => none
theorem box_ok {P : Program} {M : Mem} {β : Bt} {h h' : List Blk} {w : World} {ν : Nat} {t : TypeId} {v : Value} {x d : D} (H : HOk M β h w) (hs : Slot β h ν) (hv : Rep M β v x) (ha : aBox ν x h = some (d, h')) :
    OpOk P ν (Instr.box t v) M β w d h' := by
  unfold aBox at ha
  split at ha
  · rename_i cs hc
    obtain ⟨h1, h2, h3⟩ := hv.cells hc
    simp only [Option.some.injEq, Prod.mk.injEq] at ha
    obtain ⟨rfl, rfl⟩ := ha
    exact ok_newVar H hs h1 h2 h3
  · cases ha
def aAlloc (T : Tbl) (ν : Nat) (t : TypeId) (h : List Blk) : Option (D × List Blk) :=
  match T t with
  | some i => some (.ptr ν 0 0, place ν (.cells [i.zero] true) h)
  | none => none
theorem alloc_ok {P : Program} {T : Tbl} (hT : T.ok P) {M : Mem} {β : Bt} {h h' : List Blk} {w : World} {ν : Nat} {t : TypeId} {d : D} (H : HOk M β h w) (hs : Slot β h ν) (ha : aAlloc T ν t h = some (d, h')) :
    OpOk P ν (Instr.alloc t true (.tuple #[])) M β w d h' := by
  unfold aAlloc at ha
  split at ha
  · rename_i i hi
    simp only [Option.some.injEq, Prod.mk.injEq] at ha
    obtain ⟨rfl, rfl⟩ := ha
    obtain ⟨z, h1, h2, h3, h4⟩ := run_zeroT hT hi w
    have hn := ok_newVar (P := P) (t := t) (v := z) (cs := i.zero) H hs (by rw [h2]; simp) (fun j u e hu he => by
      rw [h2, List.getElem?_map, Array.getElem?_toList, hu] at he
      simp at he; subst he; exact absCell_rep M β u) (fun e he => by
      rw [h2] at he
      obtain ⟨u, hu, rfl⟩ := List.mem_map.1 he
      exact absCell_cell u (h4 u hu))
    obtain ⟨v, w', M', β', r1, r2, r3, r4⟩ := hn
    refine ⟨v, w', M', β', ?_, r2, r3, r4⟩
    simp only [Instr.alloc, Sem.run_bind, h1, Result.andThen_ok]
    simpa only [Sem.run_bind] using r1
  · cases ha

theorem range_get {n k k' : Nat} (h : (List.range n)[k]? = some k') : k < n ∧ k = k' := by
  obtain ⟨h1, h2⟩ := List.getElem?_eq_some_iff.1 h
  simp at h1 h2
  exact ⟨h1, h2⟩
/-- Cells that lie one behind the other. -/
theorem run_loadCellsX {P : Program} (w : World) (b off : Nat) (cs : List Value) (h : ∀ (j : Nat) v, cs[j]? = some v → w.cell? ⟨b, off + j, none⟩ = some v) : (loadCells ⟨b, off, none⟩ cs.length).run P w = .ok cs.toArray w :=
  run_loadCells_list (P := P) w ⟨b, off, none⟩ cs (fun j v hv => by rw [Addr.add_lit]; exact h j v hv)

/-- Addressed data: what can be read from there on. -/
def aView (p : D) (h : List Blk) : Option (List D) :=
  match p with
  | .ptr id i j =>
    match h[id]? with
    | some (.cells elems _) => match elems[i]? with
      | some e => some (e.drop j)
      | none => none
    | _ => none
  | .pptr l => some l
  | _ => none
theorem view_ok {M : Mem} {β : Bt} {h : List Blk} {w : World} {p : Value} {x : D} {l : List D} (H : HOk M β h w) (hp : Rep M β p x) (hv : aView x h = some l) :
    ∃ (b off : Nat) (vs : List Value), p = .pointer (some ⟨b, off, none⟩) ∧ vs.length = l.length ∧ (∀ (j : Nat) v, vs[j]? = some v → w.cell? ⟨b, off + j, none⟩ = some v) ∧ (∀ (j : Nat) v d, vs[j]? = some v → l[j]? = some d → Rep M β v d) ∧ (∀ d ∈ l, d.cell = true) := by
  cases hp <;> simp only [aView] at hv <;> try (cases hv; done)
  case ptr id i j o ho =>
    split at hv
    · rename_i elems wr hb
      split at hv
      · rename_i e he
        simp only [Option.some.injEq] at hv
        subst hv
        obtain ⟨o', ho', hbk⟩ := H.get hb
        rw [ho] at ho'; cases ho'
        obtain ⟨cs, ety, fz, h1, h2, h3, h4, h5, h6, h7⟩ := hbk
        have hel : e.length = o.sz := h5 e (List.mem_of_getElem? he)
        have hi : i < elems.length := (List.getElem?_eq_some_iff.1 he).1
        have hval : ∀ k, k < e.length - j → ∃ v, cs[i * o.sz + (j + k)]? = some v ∧ Rep M β v (e.getD (j + k) .undef) := fun k hk => by
          have hlt : j + k < e.length := by omega
          obtain ⟨_, v, hv, hr⟩ := h6 i (j + k) e e[j + k] he (by simp [hlt])
          exact ⟨v, hv, by simpa [List.getD, hlt] using hr⟩
        refine ⟨o.b, i * o.sz + j, (List.range (e.length - j)).map fun k => cs.getD (i * o.sz + (j + k)) default, rfl, by simp, fun k v hv => ?_, fun k v d hv hd => ?_, fun d hd => ?_⟩
        · simp only [List.getElem?_map, Option.map_eq_some_iff] at hv
          obtain ⟨k', hk', rfl⟩ := hv
          obtain ⟨hlt, rfl⟩ := range_get hk'
          obtain ⟨v, hv, _⟩ := hval k hlt
          simp only [World.cell?, h1, Option.isSome_none, Bool.false_eq_true, if_false]
          rw [show i * o.sz + j + k = i * o.sz + (j + k) by omega, hv]
          simp [Array.getD_eq_getD_getElem?, hv]
        · simp only [List.getElem?_map, Option.map_eq_some_iff] at hv
          obtain ⟨k', hk', rfl⟩ := hv
          obtain ⟨hlt, rfl⟩ := range_get hk'
          obtain ⟨v, hv, hr⟩ := hval k hlt
          rw [List.getElem?_drop] at hd
          simpa [Array.getD_eq_getD_getElem?, hv, List.getD, hd] using hr
        · obtain ⟨k, hk⟩ := List.mem_iff_getElem?.1 hd
          rw [List.getElem?_drop] at hk
          exact (h6 i (j + k) e d he hk).1
      · cases hv
    · cases hv
  case pptr b off l val hm hr hk =>
    simp only [Option.some.injEq] at hv
    subst hv
    refine ⟨b, off, (List.range l.length).map val, rfl, by simp, fun j v hv => ?_, fun j v d hv hd => ?_, hk⟩
    · simp only [List.getElem?_map, Option.map_eq_some_iff] at hv
      obtain ⟨k', hk', rfl⟩ := hv
      obtain ⟨hlt, rfl⟩ := range_get hk'
      exact H.cell (hm j hlt)
    · simp only [List.getElem?_map, Option.map_eq_some_iff] at hv
      obtain ⟨k', hk', rfl⟩ := hv
      obtain ⟨hlt, rfl⟩ := range_get hk'
      exact (hr j d hd).mono (Mle.refl M) (Ole.nil β)
end Go.Xa
