/- Addresses of fields and elements, parts of aggregates, indexes, cuts. -/
import Derived.Test.YtdiajbbcjndhjaaGreatDoorXC
namespace Go.Xa
open Go.RowKit

def aShift (p : D) (n : Nat) : Option D :=
  match p with
  | .ptr id i j => some (.ptr id i (j + n))
  | .pptr l => some (.pptr (l.drop n))
  | _ => none
theorem shift_rep {M : Mem} {β : Bt} {p : Value} {x d : D} {n : Nat} (hp : Rep M β p x) (ha : aShift x n = some d) :
    ∃ a, p = .pointer (some a) ∧ a.spot = none ∧ Rep M β (.pointer (some (a.add n))) d := by
  cases hp <;> simp only [aShift] at ha <;> try (cases ha; done)
  case ptr id i j o ho =>
    simp only [Option.some.injEq] at ha
    subst ha
    refine ⟨_, rfl, rfl, ?_⟩
    rw [Addr.add_lit, Nat.add_assoc]
    exact .ptr ho
  case pptr b off l val hm hr hk =>
    simp only [Option.some.injEq] at ha
    subst ha
    refine ⟨_, rfl, rfl, ?_⟩
    rw [Addr.add_lit]
    refine .pptr (fun j => val (n + j)) (fun j hj => ?_) (fun j d hd => ?_) (fun d hd => hk d (List.mem_of_mem_drop hd))
    · rw [Nat.add_assoc]
      exact hm (n + j) (by simp at hj; omega)
    · rw [List.getElem?_drop] at hd
      exact hr (n + j) d hd

def aFieldAddr (T : Tbl) (s : TypeId) (p : D) (f : Nat) : Option D :=
  match T s with
  | some { kind := .struct fs, .. } =>
    match fs[f]? with
    | some (off, ft) =>
      match T ft with
      | some i => if i.size = 0 then none else aShift p off
      | none => none
    | none => none
  | _ => none
theorem fieldAddr_ok {P : Program} {T : Tbl} (hT : T.ok P) {M : Mem} {β : Bt} {w : World} {s : TypeId} {f : Nat} {p : Value} {x d : D} (hp : Rep M β p x) (ha : aFieldAddr T s x f = some d) :
    ∃ v, (Instr.fieldAt s p f).run P w = .ok v w ∧ Rep M β v d := by
  unfold aFieldAddr at ha
  split at ha
  · rename_i fs _ hs
    split at ha
    · rename_i off ft hf
      split at ha
      · rename_i i hi
        split at ha
        · cases ha
        · rename_i hsz
          obtain ⟨a, rfl, _, hr⟩ := shift_rep hp ha
          obtain ⟨ds, h1, h2⟩ := run_underT hT hs w
          cases ds <;> simp only [kindOk] at h2
          rename_i gs
          have hg : ∃ g, gs[f]? = some g ∧ g.offset = off ∧ g.type = ft := by
            rw [h2] at hf
            simp only [List.getElem?_map, Array.getElem?_toList, Option.map_eq_some_iff, Prod.mk.injEq] at hf
            exact hf
          obtain ⟨g, hg1, hg2, hg3⟩ := hg
          have hz := run_sizeT hT hi w
          rw [← hg3] at hz
          exact ⟨_, by simp [Instr.fieldAt, h1, hg1, Instr.sureAddr, fieldPlace, hz, hsz, hg2], hr⟩
      · cases ha
    · cases ha
  · cases ha

def aPart (T : Tbl) (t : TypeId) (cs : List D) (off : Nat) : Option D :=
  match T t with
  | some i => if i.kind.isAgg then (if off + i.size ≤ cs.length then some (.agg ((cs.drop off).take i.size)) else none) else cs[off]?
  | none => none
theorem part_ok {P : Program} {T : Tbl} (hT : T.ok P) {M : Mem} {β : Bt} {w : World} {t : TypeId} {off : Nat} {vs : Array Value} {cs : List D} {d : D}
    (hl : vs.size = cs.length) (hr : ∀ (i : Nat) v d, vs[i]? = some v → cs[i]? = some d → Rep M β v d) (hk : ∀ d ∈ cs, d.cell = true) (ha : aPart T t cs off = some d) :
    ∃ v, (part t vs off).run P w = .ok v w ∧ Rep M β v d := by
  unfold aPart at ha
  split at ha
  · rename_i i hi
    have hg := run_aggT hT hi w
    have hs := run_sizeT hT hi w
    split at ha
    · rename_i hk'
      split at ha
      · rename_i hfit
        simp only [Option.some.injEq] at ha
        subst ha
        refine ⟨.agg (vs.extract off (off + i.size)), by simp [part, hg, hk', hs], .agg (by simp; omega) (fun j v d hv hd => ?_) (fun d hd => hk d (List.mem_of_mem_drop (List.mem_of_mem_take hd)))⟩
        rw [List.getElem?_take, List.getElem?_drop] at hd
        split at hd
        · rename_i hj
          rw [Array.getElem?_extract] at hv
          split at hv
          · exact hr _ v d hv hd
          · cases hv
        · cases hd
      · cases ha
    · rename_i hk'
      have hk2 : i.kind.isAgg = false := by simpa using hk'
      have hlt : off < vs.size := by rw [hl]; exact (List.getElem?_eq_some_iff.1 ha).1
      exact ⟨vs[off], by simp [part, hg, hk2, hlt], hr off _ d (by simp [hlt]) ha⟩
  · cases ha

def aField (T : Tbl) (s : TypeId) (x : D) (f : Nat) : Option D :=
  match T s, x with
  | some { kind := .struct fs, .. }, .agg cs =>
    match fs[f]? with
    | some (off, ft) => aPart T ft cs off
    | none => none
  | _, _ => none
theorem field_ok {P : Program} {T : Tbl} (hT : T.ok P) {M : Mem} {β : Bt} {w : World} {s : TypeId} {f : Nat} {v : Value} {x d : D} (hv : Rep M β v x) (ha : aField T s x f = some d) :
    ∃ u, (Instr.field s v f).run P w = .ok u w ∧ Rep M β u d := by
  unfold aField at ha
  split at ha
  · rename_i fs _ cs hs
    split at ha
    · rename_i off ft hf
      cases hv
      case agg vs hl hk hr =>
      obtain ⟨ds, h1, h2⟩ := run_underT hT hs w
      cases ds <;> simp only [kindOk] at h2
      rename_i gs
      have hg : ∃ g, gs[f]? = some g ∧ g.offset = off ∧ g.type = ft := by
        rw [h2] at hf
        simp only [List.getElem?_map, Array.getElem?_toList, Option.map_eq_some_iff, Prod.mk.injEq] at hf
        exact hf
      obtain ⟨g, hg1, rfl, rfl⟩ := hg
      obtain ⟨u, hu, hr'⟩ := part_ok (w := w) hT hl hr hk ha
      exact ⟨u, by simp [Instr.field, h1, hg1, asAgg, hu], hr'⟩
    · cases ha
  · cases ha

/-- The elements that a slice reads as. -/
def aElems (x : D) (h : List Blk) : Option (List (List D)) :=
  match x with
  | .sl _ l => some l
  | .own id off len _ =>
    match h[id]? with
    | some (.cells elems _) => if off + len ≤ elems.length then some ((elems.drop off).take len) else none
    | _ => none
  | _ => none

def aIndexAddr (T : Tbl) (t : TypeId) (x i : D) (h : List Blk) : Option D :=
  match T t, i with
  | some { kind := .arr n e, .. }, .int _ k =>
    match T e with
    | some ei => if 0 ≤ k ∧ k < n then aShift x (k.toNat * ei.size) else none
    | none => none
  | some { kind := .slice e, .. }, .int _ k =>
    match T e, x with
    | some ei, .sl _ l =>
      if 0 ≤ k then (match l[k.toNat]? with
        | some c => if c.length = ei.size then some (.pptr c) else none
        | none => none) else none
    | some ei, .own id off len _ =>
      match h[id]? with
      | some (.cells elems _) => if 0 ≤ k ∧ k < len then (match elems[off + k.toNat]? with
          | some c => if c.length = ei.size then some (.ptr id (off + k.toNat) 0) else none
          | none => none) else none
      | _ => none
    | _, _ => none
  | _, _ => none
theorem indexAddr_ok {P : Program} {T : Tbl} (hT : T.ok P) {M : Mem} {β : Bt} {h : List Blk} {w : World} {t : TypeId} {v iv : Value} {x i d : D} (H : HOk M β h w) (hv : Rep M β v x) (hi : Rep M β iv i)
    (ha : aIndexAddr T t x i h = some d) : ∃ u, (Instr.indexAt t v iv).run P w = .ok u w ∧ Rep M β u d := by
  unfold aIndexAddr at ha
  split at ha
  · rename_i n e _ k kk ht
    cases hi
    split at ha
    · rename_i ei he
      split at ha
      · rename_i hk
        obtain ⟨a, rfl, _, hr⟩ := shift_rep hv ha
        obtain ⟨ds, h1, h2⟩ := run_underT hT ht w
        cases ds <;> simp only [kindOk] at h2
        obtain ⟨rfl, rfl⟩ := h2
        have hs := run_sizeT hT he w
        refine ⟨_, ?_, hr⟩
        simp [Instr.indexAt, asIntOf, h1, Instr.sureAddr, hk, hs]
      · cases ha
    · cases ha
  · rename_i e _ k kk ht
    cases hi
    obtain ⟨ds, h1, h2⟩ := run_underT hT ht w
    cases ds <;> simp only [kindOk] at h2
    subst h2
    split at ha
    · rename_i ei _ l he
      split at ha
      · rename_i hk
        split at ha
        · rename_i c hc
          split at ha
          · rename_i hcl
            simp only [Option.some.injEq] at ha
            subst ha
            cases hv with
            | sl sz b off val hl hcap hclip hs hn hm hr hk' =>
            rename_i a len cap
            have hlt : kk.toNat < l.length := (List.getElem?_eq_some_iff.1 hc).1
            have hne : l ≠ [] := by rintro rfl; simp at hlt
            have hsz : c.length = sz := hs c (List.mem_of_getElem? hc)
            rw [hn hne]
            have hs' := run_sizeT hT he w
            refine ⟨.pointer (some ⟨b, off + kk.toNat * ei.size, none⟩), ?_, .pptr (fun j => val kk.toNat j) (fun j hj => ?_) (fun j d hd => hr kk.toNat j c d hc hd) (fun d hd => hk' c (List.mem_of_getElem? hc) d hd)⟩
            · have hlen : kk < (len : Int) := by omega
              simp [Instr.indexAt, asIntOf, h1, hk, hlen, hs', Addr.add_lit]
            · rw [← hcl, hsz]
              exact hm kk.toNat j (by omega) (by omega)
          · cases ha
        · cases ha
      · cases ha
    · rename_i ei _ id off len clip he
      split at ha
      · rename_i elems wr hb
        split at ha
        · rename_i hk
          split at ha
          · rename_i c hc
            split at ha
            · rename_i hcl
              simp only [Option.some.injEq] at ha
              subst ha
              cases hv
              case own cap o ho hcap hclip hn =>
              obtain ⟨cs, ety, fz, g1, g2, g3, g4, g5, g6, g7⟩ := H.blk id _ o hb ho
              have hsz : c.length = o.sz := g5 c (List.mem_of_getElem? hc)
              have hs' := run_sizeT hT he w
              refine ⟨.pointer (some ⟨o.b, (off + kk.toNat) * o.sz + 0, none⟩), ?_, .ptr ho⟩
              simp [Instr.indexAt, asIntOf, h1, hk, hs', Addr.add_lit, Nat.add_mul, ← hcl, hsz]
            · cases ha
          · cases ha
        · cases ha
      · cases ha
    · cases ha
  · cases ha

def aIndex (T : Tbl) (t : TypeId) (x i : D) : Option D :=
  match T t, x, i with
  | some { kind := .arr n e, .. }, .agg cs, .int _ k =>
    match T e with
    | some ei => if 0 ≤ k ∧ k < n then aPart T e cs (k.toNat * ei.size) else none
    | none => none
  | some { kind := .str, .. }, .str s, .int _ k => if 0 ≤ k then (s[k.toNat]?).map fun b => .int .u8 b.toNat else none
  | _, _, _ => none
theorem index_ok {P : Program} {T : Tbl} (hT : T.ok P) {M : Mem} {β : Bt} {w : World} {t : TypeId} {v iv : Value} {x i d : D} (hv : Rep M β v x) (hi : Rep M β iv i)
    (ha : aIndex T t x i = some d) : ∃ u, (Instr.index t v iv).run P w = .ok u w ∧ Rep M β u d := by
  unfold aIndex at ha
  split at ha
  · rename_i n e _ cs k kk ht
    cases hi
    obtain ⟨ds, h1, h2⟩ := run_underT hT ht w
    cases ds <;> simp only [kindOk] at h2
    obtain ⟨rfl, rfl⟩ := h2
    split at ha
    · rename_i ei he
      split at ha
      · rename_i hk
        cases hv
        case agg vs hl hk' hr =>
        have hs := run_sizeT hT he w
        obtain ⟨u, hu, hr'⟩ := part_ok (w := w) hT hl hr hk' ha
        exact ⟨u, by simp [Instr.index, asIntOf, h1, hk, hs, hu], hr'⟩
      · cases ha
    · cases ha
  · rename_i _ s k kk ht
    cases hi
    obtain ⟨ds, h1, h2⟩ := run_underT hT ht w
    cases ds <;> simp only [kindOk] at h2
    cases hv
    case str bs hs =>
    split at ha
    · rename_i hk
      simp only [Option.map_eq_some_iff] at ha
      obtain ⟨b, hb, rfl⟩ := ha
      have hb' : bs[kk.toNat]? = some b := by
        subst hs
        obtain ⟨hlt, he⟩ := List.getElem?_eq_some_iff.1 hb
        have hlt' : kk.toNat < bs.size := by simpa using hlt
        rw [getElem?_pos bs kk.toNat hlt']
        simp only [Array.length_toList, Array.getElem_toList] at he
        exact congrArg some he
      exact ⟨.int .u8 b.toNat, by simp [Instr.index, asIntOf, h1, hk, hb'], .int⟩
    · cases ha
  · cases ha
end Go.Xa
