/- Abstract data and how the machine's memory stands for them. -/
import Derived.Below
import Derived.RangeFuncRecord
import Derived.Laws.CopyRow
import Derived.Laws.Cells
import Derived.Lib.FrozenHead
namespace Go.Xa
open Go.RowKit

/-- Memory that does not turn any more: some blocks with what they hold. -/
abbrev Mem := Nat → Option Obj
def cellOf (M : Mem) (b off : Nat) : Option Value :=
  match M b with
  | some (.cells cs _ _) => cs[off]?
  | _ => none
/-- Memory that grows. -/
def Mle (M M' : Mem) : Prop := ∀ b o, M b = some o → M' b = some o
theorem Mle.refl (M : Mem) : Mle M M := fun _ _ h => h
theorem Mle.trans {A B C : Mem} (h : Mle A B) (k : Mle B C) : Mle A C := fun b o hb => k b o (h b o hb)
theorem Mle.cell {M M' : Mem} (h : Mle M M') {b off : Nat} {v : Value} (hc : cellOf M b off = some v) : cellOf M' b off = some v := by
  unfold cellOf at *
  cases hb : M b with
  | none => simp [hb] at hc
  | some o => rw [h b o hb]; rw [hb] at hc; exact hc

/-- A block of the call's own: its number, cells an element, elements at most. -/
structure Own where
  b : Nat
  sz : Nat
  n : Nat
  deriving DecidableEq

/-- The blocks of the call's own, by their numbers here. -/
abbrev Bt := Nat → Option Own
def Bt.none : Bt := fun _ => Option.none
def Bt.push (β : Bt) (n : Nat) (o : Own) : Bt := fun i => if i = n then some o else β i
def Bt.has (β : Bt) (b : Nat) : Prop := ∃ i o, β i = some o ∧ o.b = b

/-- What the machine's values stand for. -/
inductive D where
  | undef
  | int (k : IntKind) (n : Int)
  | bool (b : Bool)
  | str (s : List UInt8)
  | sl (clip : Bool) (l : List (List D))
  | ptr (id i j : Nat)
  | pptr (l : List D)
  | own (id off len : Nat) (clip : Bool)
  | fn (f : FuncId) (first caps : List D)
  | yield (l : Nat)
  | agg (cs : List D)
  | tup (vs : List D)
  | lit (v : Value)
  deriving Inhabited

/-- A value of one cell. -/
def D.cell : D → Bool
  | .undef | .agg _ | .tup _ => false
  | .lit v => v.oneCell'
  | _ => true

/-- 'In the memory M, the call's own blocks being β, the value v stands for d.' -/
inductive Rep (M : Mem) : Bt → Value → D → Prop
  | undef {β : Bt} {v : Value} : Rep M β v .undef
  | int {β : Bt} {k : IntKind} {n : Int} : Rep M β (.int k n) (.int k n)
  | bool {β : Bt} {b : Bool} : Rep M β (.bool b) (.bool b)
  | str {β : Bt} {s : ByteArray} {l : List UInt8} (h : s.data.toList = l) : Rep M β (.string s) (.str l)
  | lit {β : Bt} {v : Value} : Rep M β v (.lit v)
  | sl {β : Bt} {a : Option Addr} {len cap : Nat} {clip : Bool} {l : List (List D)} (sz b off : Nat) (val : Nat → Nat → Value)
      (hl : l.length = len) (hc : len ≤ cap) (hclip : clip = true → cap = len) (hs : ∀ e ∈ l, e.length = sz)
      (ha : l ≠ [] → a = some ⟨b, off, none⟩)
      (hm : ∀ i j, i < len → j < sz → cellOf M b (off + i * sz + j) = some (val i j))
      (hr : ∀ i j e d, l[i]? = some e → e[j]? = some d → Rep M Bt.none (val i j) d)
      (hk : ∀ e ∈ l, ∀ d ∈ e, d.cell = true) : Rep M β (.slice a len cap) (.sl clip l)
  | ptr {β : Bt} {id i j : Nat} {o : Own} (h : β id = some o) : Rep M β (.pointer (some ⟨o.b, i * o.sz + j, none⟩)) (.ptr id i j)
  | pptr {β : Bt} {b off : Nat} {l : List D} (val : Nat → Value) (hm : ∀ j, j < l.length → cellOf M b (off + j) = some (val j))
      (hr : ∀ (j : Nat) d, l[j]? = some d → Rep M Bt.none (val j) d) (hk : ∀ d ∈ l, d.cell = true) : Rep M β (.pointer (some ⟨b, off, none⟩)) (.pptr l)
  | own {β : Bt} {id off len cap : Nat} {clip : Bool} {o : Own} (h : β id = some o) (hc : len ≤ cap) (hclip : clip = true → cap = len) (hn : off + cap ≤ o.n) :
      Rep M β (.slice (some ⟨o.b, off * o.sz, none⟩) len cap) (.own id off len clip)
  | fn {β : Bt} {f : FuncId} {first caps : Array Value} {ds es : List D} (h1 : first.size = ds.length) (h2 : caps.size = es.length)
      (hr1 : ∀ (i : Nat) v d, first[i]? = some v → ds[i]? = some d → Rep M β v d) (hr2 : ∀ (i : Nat) v d, caps[i]? = some v → es[i]? = some d → Rep M β v d) :
      Rep M β (.func (.func f) first caps) (.fn f ds es)
  | yield {β : Bt} {l : Nat} {o : Own} (h : β l = some o) : Rep M β (.func (.yield o.b) #[] #[]) (.yield l)
  | agg {β : Bt} {vs : Array Value} {ds : List D} (hl : vs.size = ds.length) (hr : ∀ (i : Nat) v d, vs[i]? = some v → ds[i]? = some d → Rep M β v d)
      (hk : ∀ d ∈ ds, d.cell = true) : Rep M β (.agg vs) (.agg ds)
  | tup {β : Bt} {vs : Array Value} {ds : List D} (hl : vs.size = ds.length) (hr : ∀ (i : Nat) v d, vs[i]? = some v → ds[i]? = some d → Rep M β v d) :
      Rep M β (.tuple vs) (.tup ds)

/-- Own blocks: more of them. -/
def Ole (β β' : Bt) : Prop := ∀ (i : Nat) o, β i = some o → β' i = some o
theorem Ole.refl (β : Bt) : Ole β β := fun _ _ h => h
theorem Ole.trans {A B C : Bt} (h : Ole A B) (k : Ole B C) : Ole A C := fun i o hi => k i o (h i o hi)
theorem Ole.nil (β : Bt) : Ole Bt.none β := fun i o h => by simp [Bt.none] at h
theorem Ole.push {β : Bt} {n : Nat} (o : Own) (h : β n = none) : Ole β (β.push n o) := fun i p hp => by
  unfold Bt.push
  split
  · rename_i e; subst e; rw [h] at hp; cases hp
  · exact hp
  @[simp] theorem Bt.push_self (β : Bt) (n : Nat) (o : Own) : β.push n o n = some o := by simp [Bt.push]
theorem Bt.push_ne (β : Bt) (n : Nat) (o : Own) (i : Nat) (h : i ≠ n) : β.push n o i = β i := by simp [Bt.push, h]

theorem Rep.mono {M M' : Mem} (hM : Mle M M') {β : Bt} {v : Value} {d : D} (h : Rep M β v d) : ∀ {β' : Bt}, Ole β β' → Rep M' β' v d := by
  induction h with
  | undef => exact fun _ => .undef
  | int => exact fun _ => .int
  | bool => exact fun _ => .bool
  | str h => exact fun _ => .str h
  | lit => exact fun _ => .lit
  | sl sz b off val hl hc hclip hs ha hm hr hk ih =>
    exact fun _ => .sl sz b off val hl hc hclip hs ha (fun i j h1 h2 => hM.cell (hm i j h1 h2)) (fun i j e d h1 h2 => ih i j e d h1 h2 (Ole.refl _)) hk
  | ptr h => exact fun hO => .ptr (hO _ _ h)
  | pptr val hm hr hk ih => exact fun _ => .pptr val (fun j hj => hM.cell (hm j hj)) (fun j d hd => ih j d hd (Ole.refl _)) hk
  | own h hc hclip hn => exact fun hO => .own (hO _ _ h) hc hclip hn
  | fn h1 h2 hr1 hr2 ih1 ih2 => exact fun hO => .fn h1 h2 (fun i v d a b => ih1 i v d a b hO) (fun i v d a b => ih2 i v d a b hO)
  | yield h => exact fun hO => .yield (hO _ _ h)
  | agg hl hr hk ih => exact fun hO => .agg hl (fun i v d a b => ih i v d a b hO) hk
  | tup hl hr ih => exact fun hO => .tup hl (fun i v d a b => ih i v d a b hO)

theorem Rep.oneCell {M : Mem} {β : Bt} {v : Value} {d : D} (h : Rep M β v d) (hd : d.cell = true) : v.oneCell' = true := by
  cases h <;> first | rfl | (simp [D.cell] at hd; done) | exact hd

/-- What a block of the call's own holds. -/
inductive Blk where
  | dead
  | cells (elems : List (List D)) (wr : Bool)
  | loop (st : LoopState) (pending : Option Code) (tmps : List D) (params : List Nat) (assign body : Code) (dfr : Nat)
  | dfr
  deriving Inhabited

def Blk.live : Blk → Bool
  | .dead => false
  | _ => true

def TmpsOk (M : Mem) (β : Bt) (ts : Array Value) (ds : List D) : Prop :=
  ts.size = ds.length ∧ ∀ (i : Nat) v d, ts[i]? = some v → ds[i]? = some d → Rep M β v d

def BlkOk (M : Mem) (β : Bt) (w : World) (o : Own) : Blk → Prop
  | .dead => True
  | .cells elems wr => ∃ cs ety fz, w.heap[o.b]? = some (.cells cs ety fz) ∧ o.n * o.sz ≤ cs.size ∧ (∀ off, off < o.n * o.sz → ¬ (fz.1 ≤ off ∧ off < fz.2)) ∧
      elems.length ≤ o.n ∧ (∀ e ∈ elems, e.length = o.sz) ∧ (∀ (i j : Nat) e d, elems[i]? = some e → e[j]? = some d → d.cell = true ∧ ∃ v, cs[i * o.sz + j]? = some v ∧ Rep M β v d) ∧
      (if wr then M o.b = none else M o.b = w.heap[o.b]?)
  | .loop st pending tmps params assign body dfr => ∃ fn ts od, β dfr = some od ∧
      w.heap[o.b]? = some (.loop { state := st, pending := pending, fn := fn, tmps := ts, params := params.toArray, assign := assign, body := body, defers := od.b }) ∧ M o.b = none ∧ TmpsOk M β ts tmps
  | .dfr => w.heap[o.b]? = some (.deferred (some [])) ∧ M o.b = none

theorem BlkOk.cong {M : Mem} {β : Bt} {w w' : World} {o : Own} {x : Blk} (h : BlkOk M β w o x) (he : w'.heap[o.b]? = w.heap[o.b]?) : BlkOk M β w' o x := by
  cases x <;> simp only [BlkOk] at * <;> (try rw [he]) <;> exact h
theorem TmpsOk.mono {M M' : Mem} {β β' : Bt} {ts : Array Value} {ds : List D} (hM : Mle M M') (hO : Ole β β') (h : TmpsOk M β ts ds) : TmpsOk M' β' ts ds :=
  ⟨h.1, fun i v d a b => (h.2 i v d a b).mono hM hO⟩
/-- More own blocks; memory that grows elsewhere. -/
theorem BlkOk.mono {M M' : Mem} {β β' : Bt} {w : World} {o : Own} {x : Blk} (hM : Mle M M') (hO : Ole β β') (hb : M' o.b = M o.b) (h : BlkOk M β w o x) : BlkOk M' β' w o x := by
  cases x with
  | dead => trivial
  | cells elems wr =>
    obtain ⟨cs, ety, fz, h1, h2, h3, h4, h5, h6, h7⟩ := h
    exact ⟨cs, ety, fz, h1, h2, h3, h4, h5, fun i j e d a b => let ⟨c, v, hv, hr⟩ := h6 i j e d a b; ⟨c, v, hv, hr.mono hM hO⟩, by rw [hb]; exact h7⟩
  | loop st pending tmps params assign body dfr =>
    obtain ⟨fn, ts, od, h1, h2, h3, h4⟩ := h
    exact ⟨fn, ts, od, hO _ _ h1, h2, by rw [hb]; exact h3, h4.mono hM hO⟩
  | dfr => exact ⟨h.1, by rw [hb]; exact h.2⟩

structure HOk (M : Mem) (β : Bt) (h : List Blk) (w : World) : Prop where
  blk : ∀ (id : Nat) x o, h[id]? = some x → β id = some o → BlkOk M β w o x
  has : ∀ (id : Nat) x, h[id]? = some x → x.live = true → ∃ o, β id = some o
  ge : ∀ (id : Nat), h.length ≤ id → β id = none
  inj : ∀ (i j : Nat) x y o p, h[i]? = some x → h[j]? = some y → x.live = true → y.live = true → β i = some o → β j = some p → o.b = p.b → i = j
  agree : ∀ b o, M b = some o → w.heap[b]? = some o
  lt : ∀ (id : Nat) o, β id = some o → o.b < w.heap.size

theorem HOk.get {M : Mem} {β : Bt} {h : List Blk} {w : World} (H : HOk M β h w) {id : Nat} {x : Blk} (hx : h[id]? = some x) (hl : x.live = true := by rfl) : ∃ o, β id = some o ∧ BlkOk M β w o x := by
  obtain ⟨o, ho⟩ := H.has id x hx hl
  exact ⟨o, ho, H.blk id x o hx ho⟩
theorem HOk.cell {M : Mem} {β : Bt} {h : List Blk} {w : World} (H : HOk M β h w) {b off : Nat} {v : Value} (hc : cellOf M b off = some v) : w.cell? ⟨b, off, none⟩ = some v := by
  unfold cellOf at hc
  cases hb : M b with
  | none => simp [hb] at hc
  | some o =>
    rw [hb] at hc
    have := H.agree b o hb
    simp only [World.cell?, this]
    cases o <;> simp at hc ⊢
    exact hc

/-- What turns: blocks of β alone, or new ones. -/
structure WExt (β : Bt) (w w' : World) : Prop where
  os : w'.os = w.os
  tape : w'.tape = w.tape
  output : w'.output = w.output
  size : w.heap.size ≤ w'.heap.size
  block : ∀ k, k < w.heap.size → ¬ β.has k → w'.heap[k]? = w.heap[k]?
theorem WExt.refl (β : Bt) (w : World) : WExt β w w := ⟨rfl, rfl, rfl, Nat.le_refl _, fun _ _ _ => rfl⟩

/-- One step, or many. -/
structure Good (M : Mem) (β : Bt) (w : World) (M' : Mem) (β' : Bt) (w' : World) : Prop where
  mle : Mle M M'
  ole : Ole β β'
  ext : WExt β w w'
  new : ∀ k, β'.has k → β.has k ∨ w.heap.size ≤ k
  mnew : ∀ b, M' b ≠ none → M b ≠ none ∨ β.has b ∨ w.heap.size ≤ b
theorem Good.refl (M : Mem) (β : Bt) (w : World) : Good M β w M β w := ⟨Mle.refl M, Ole.refl β, WExt.refl β w, fun _ h => .inl h, fun _ h => .inl h⟩
theorem Good.trans {M M' M'' : Mem} {β β' β'' : Bt} {w w' w'' : World} (h : Good M β w M' β' w') (k : Good M' β' w' M'' β'' w'') : Good M β w M'' β'' w'' :=
  ⟨h.mle.trans k.mle, h.ole.trans k.ole, ⟨k.ext.os.trans h.ext.os, k.ext.tape.trans h.ext.tape, k.ext.output.trans h.ext.output, Nat.le_trans h.ext.size k.ext.size,
    fun b hb hn => (k.ext.block b (Nat.lt_of_lt_of_le hb h.ext.size) (fun ho => by
      rcases h.new b ho with h1 | h1
      · exact hn h1
      · omega)).trans (h.ext.block b hb hn)⟩,
   fun b ho => by
    rcases k.new b ho with h1 | h1
    · exact h.new b h1
    · exact .inr (Nat.le_trans h.ext.size h1),
   fun b hb => by
    rcases k.mnew b hb with h1 | h1 | h1
    · exact h.mnew b h1
    · exact .inr (h.new b h1)
    · exact .inr (.inr (Nat.le_trans h.ext.size h1))⟩

theorem HOk.drew {M : Mem} {β : Bt} {h : List Blk} {w : World} (H : HOk M β h w) : HOk M β h w.drew :=
  ⟨fun id x o a b => (H.blk id x o a b).cong rfl, H.has, H.ge, H.inj, H.agree, H.lt⟩
theorem Good.drew (M : Mem) (β : Bt) (w : World) : Good M β w M β w.drew := ⟨Mle.refl M, Ole.refl β, ⟨rfl, rfl, rfl, Nat.le_refl _, fun _ _ _ => rfl⟩, fun _ h => .inl h, fun _ h => .inl h⟩

theorem heap_alloc_old (w : World) (o : Obj) (k : Nat) (h : k < w.heap.size) : (w.alloc o).heap[k]? = w.heap[k]? := Below.heap_alloc w o k h
theorem HOk.none_of_ge {M : Mem} {β : Bt} {h : List Blk} {w : World} (H : HOk M β h w) {b : Nat} (hb : w.heap.size ≤ b) : M b = none := by
  cases hm : M b with
  | none => rfl
  | some o =>
    have := H.agree b o hm
    have := (Array.getElem?_eq_some_iff.1 this).1
    omega

/-- A new block that nobody speaks of. -/
theorem HOk.alloc0 {M : Mem} {β : Bt} {h : List Blk} {w : World} (H : HOk M β h w) (ob : Obj) : HOk M β h (w.alloc ob) :=
  ⟨fun id x o a b => (H.blk id x o a b).cong (heap_alloc_old _ _ _ (H.lt id o b)), H.has, H.ge, H.inj,
   fun b o hb => by
    have h1 := H.agree b o hb
    rw [heap_alloc_old _ _ _ (Array.getElem?_eq_some_iff.1 h1).1]; exact h1,
   fun id o ho => by have := H.lt id o ho; simp; omega⟩
theorem Good.alloc0 (M : Mem) (β : Bt) (w : World) (ob : Obj) : Good M β w M β (w.alloc ob) :=
  ⟨Mle.refl M, Ole.refl β, ⟨rfl, rfl, rfl, by simp, fun k hk _ => heap_alloc_old _ _ _ hk⟩, fun _ h => .inl h, fun _ h => .inl h⟩

/-- A place for a block more: the next one, or one that speaks of nothing. -/
def place (ν : Nat) (x : Blk) (h : List Blk) : List Blk := if ν = h.length then h ++ [x] else h.set ν x
structure Slot (β : Bt) (h : List Blk) (ν : Nat) : Prop where
  free : β ν = none
  at_ : ν = h.length ∨ h[ν]? = some .dead
theorem place_get {ν : Nat} {x : Blk} {h : List Blk} (hs : ν = h.length ∨ h[ν]? = some .dead) : (place ν x h)[ν]? = some x := by
  unfold place
  split
  · rename_i e; subst e; simp
  · rename_i e
    have : ν < h.length := by
      rcases hs with r | r
      · exact absurd r e
      · exact (List.getElem?_eq_some_iff.1 r).1
    simp [this]
theorem place_other {ν i : Nat} {x y : Blk} {h : List Blk} (hs : ν = h.length ∨ h[ν]? = some .dead) (hi : i ≠ ν) (hy : (place ν x h)[i]? = some y) : h[i]? = some y := by
  unfold place at hy
  split at hy
  · rename_i e; subst e
    by_cases hid : i < h.length
    · rwa [List.getElem?_append_left hid] at hy
    · have hlt := (List.getElem?_eq_some_iff.1 hy).1
      simp at hlt; omega
  · rwa [List.getElem?_set_ne (fun e => hi e.symm)] at hy
theorem place_len {ν : Nat} {x : Blk} {h : List Blk} (hs : ν = h.length ∨ h[ν]? = some .dead) : h.length ≤ (place ν x h).length ∧ ν < (place ν x h).length := by
  unfold place
  split
  · rename_i e; subst e; simp
  · rename_i e
    have : ν < h.length := by
      rcases hs with r | r
      · exact absurd r e
      · exact (List.getElem?_eq_some_iff.1 r).1
    simp [this]

/-- A block more; its block of the machine's is new, or was under a number that speaks of it no more. -/
theorem HOk.push {M : Mem} {β : Bt} {h : List Blk} {w : World} {ν : Nat} (H : HOk M β h w) (hs : Slot β h ν) (o : Own) (x : Blk) (hlt : o.b < w.heap.size) (hnew : ∀ (i : Nat) y p, h[i]? = some y → y.live = true → β i = some p → p.b ≠ o.b)
    (hx : BlkOk M (β.push ν o) w o x) : HOk M (β.push ν o) (place ν x h) w := by
  have hO : Ole β (β.push ν o) := Ole.push o hs.free
  have old : ∀ (i : Nat) (y : Blk), (place ν x h)[i]? = some y → (i = ν ∧ y = x) ∨ (i ≠ ν ∧ h[i]? = some y) := by
    intro i y a
    by_cases hid : i = ν
    · subst hid
      rw [place_get hs.at_] at a
      exact .inl ⟨rfl, (Option.some.inj a).symm⟩
    · exact .inr ⟨hid, place_other hs.at_ hid a⟩
  have oldb : ∀ (i : Nat) (p : Own), i ≠ ν → β.push ν o i = some p → β i = some p := fun i p hi hp => by
    unfold Bt.push at hp
    rwa [if_neg hi] at hp
  refine ⟨fun id y p a b => ?_, fun id y a hl => ?_, fun id hid => ?_, fun i j y z p q a b c d e f g => ?_, H.agree, fun id p hp => ?_⟩
  · rcases old id y a with ⟨rfl, rfl⟩ | ⟨h1, h2⟩
    · rw [Bt.push_self] at b; cases b; exact hx
    · exact (H.blk id y p h2 (oldb id p h1 b)).mono (Mle.refl M) hO rfl
  · rcases old id y a with ⟨rfl, rfl⟩ | ⟨h1, h2⟩
    · exact ⟨o, Bt.push_self _ _ _⟩
    · obtain ⟨p, hp⟩ := H.has id y h2 hl
      exact ⟨p, hO _ _ hp⟩
  · have hl := place_len (x := x) hs.at_
    unfold Bt.push
    rw [if_neg (by omega)]
    exact H.ge id (by omega)
  · rcases old i y a with ⟨h1, h2⟩ | ⟨h1, h2⟩ <;> rcases old j z b with ⟨k1, k2⟩ | ⟨k1, k2⟩
    · rw [h1, k1]
    · subst h1
      rw [Bt.push_self] at e; cases e
      exact absurd g.symm (hnew j z q k2 d (oldb j q k1 f))
    · subst k1
      rw [Bt.push_self] at f; cases f
      exact absurd g (hnew i y p h2 c (oldb i p h1 e))
    · exact H.inj i j y z p q h2 k2 c d (oldb i p h1 e) (oldb j q k1 f) g
  · unfold Bt.push at hp
    split at hp
    · cases hp; exact hlt
    · exact H.lt id p hp
/-- A new block of the call's own. -/
theorem HOk.alloc {M : Mem} {β : Bt} {h : List Blk} {w : World} {ν : Nat} (H : HOk M β h w) (hs : Slot β h ν) (ob : Obj) (o : Own) (ho : o.b = w.heap.size) (x : Blk)
    (hx : BlkOk M (β.push ν o) (w.alloc ob) o x) : HOk M (β.push ν o) (place ν x h) (w.alloc ob) :=
  (H.alloc0 ob).push hs o x (by simp; omega) (fun i _ p _ _ hp => by have := H.lt i p hp; omega) hx
theorem Good.alloc {M : Mem} {β : Bt} {w : World} {n : Nat} (ob : Obj) (o : Own) (ho : o.b = w.heap.size) (hn : β n = none) : Good M β w M (β.push n o) (w.alloc ob) :=
  ⟨Mle.refl M, Ole.push o hn, ⟨rfl, rfl, rfl, by simp, fun k hk _ => heap_alloc_old _ _ _ hk⟩, fun k hp => by
    obtain ⟨i, p, hp, rfl⟩ := hp
    unfold Bt.push at hp
    split at hp
    · cases hp; exact .inr (by omega)
    · exact .inl ⟨i, p, hp, rfl⟩, fun _ h => .inl h⟩

/-- A block of the call's own turns, and no other. -/
theorem HOk.turn {M : Mem} {β : Bt} {h : List Blk} {w w' : World} (H : HOk M β h w) {id : Nat} {x x' : Blk} {o : Own} (hx : h[id]? = some x) (ho : β id = some o) (hl : x.live = true) (hM : M o.b = none)
    (hs : w'.heap.size = w.heap.size) (hk : ∀ k, k ≠ o.b → w'.heap[k]? = w.heap[k]?) (hx' : BlkOk M β w' o x') : HOk M β (h.set id x') w' := by
  have hid : id < h.length := (List.getElem?_eq_some_iff.1 hx).1
  have old : ∀ (i : Nat) (y : Blk), (h.set id x')[i]? = some y → y.live = true → ∃ y', h[i]? = some y' ∧ y'.live = true := by
    intro i y a c
    by_cases hi : id = i
    · subst hi; exact ⟨x, hx, hl⟩
    · rw [List.getElem?_set_ne hi] at a; exact ⟨y, a, c⟩
  refine ⟨fun j y p a b => ?_, fun j y a c => ?_, fun j hj => H.ge j (by simpa using hj), fun i j y z p q a b c d e f g => ?_, fun b p hb => ?_, fun j p hp => by rw [hs]; exact H.lt j p hp⟩
  · by_cases hj : id = j
    · subst hj
      rw [ho] at b
      rw [List.getElem?_set_self hid] at a
      cases a; cases b
      exact hx'
    · rw [List.getElem?_set_ne hj] at a
      by_cases hlive : y.live = true
      · refine (H.blk j y p a b).cong (hk _ fun e => hj ?_)
        exact H.inj id j x y o p hx a hl hlive ho b e.symm
      · cases y <;> simp [Blk.live] at hlive
        trivial
  · obtain ⟨y', h1, h2⟩ := old j y a c
    exact H.has j y' h1 h2
  · obtain ⟨y', h1, h2⟩ := old i y a c
    obtain ⟨z', k1, k2⟩ := old j z b d
    exact H.inj i j y' z' p q h1 k1 h2 k2 e f g
  · have := H.agree b p hb
    rw [hk b (fun e => by rw [e, hM] at hb; cases hb)]
    exact this
theorem Good.turn {M : Mem} {β : Bt} {w w' : World} {id : Nat} {o : Own} (ho : β id = some o) (hs : w'.heap.size = w.heap.size) (hk : ∀ k, k ≠ o.b → w'.heap[k]? = w.heap[k]?)
    (h1 : w'.os = w.os) (h2 : w'.tape = w.tape) (h3 : w'.output = w.output) : Good M β w M β w' :=
  ⟨Mle.refl M, Ole.refl β, ⟨h1, h2, h3, by omega, fun k _ hn => hk k (fun e => hn ⟨id, o, ho, e.symm⟩)⟩, fun _ h => .inl h, fun _ h => .inl h⟩
end Go.Xa
