/- Building aggregates and slices; append, copy, conversions. -/
import Derived.Test.YtdiajbbcjndhjaaGreatDoorXF
import Derived.Laws.BytesString
namespace Go.Xa
open Go.RowKit

/-- A segment written cell by cell. -/
theorem foldl_seg (off : Nat) : ∀ (vs : List Value) (k : Nat) (cs : Array Value), off + k + vs.length ≤ cs.size →
    ((vs.zipIdx k).foldl (fun (cs : Array Value) (p : Value × Nat) => cs.setIfInBounds (off + p.2) p.1) cs).toList = cs.toList.take (off + k) ++ vs ++ cs.toList.drop (off + k + vs.length)
  | [], k, cs, _ => by simp
  | v :: vs, k, cs, h => by
    rw [List.zipIdx_cons, List.foldl_cons, foldl_seg off vs (k + 1) _ (by simp at h ⊢; omega)]
    have e := list_seg_step cs.toList (off + k) v vs (by simp at h ⊢; omega)
    simpa [Array.toList_setIfInBounds, Nat.add_assoc] using e

def aFill (place : Nat → Option (Nat × Nat)) (cells : List D) : List (Nat × D) → Option (List D)
  | [] => some cells
  | (i, d) :: rest =>
    match place i, d.cells with
    | some (off, size), some cs => if cs.length = size ∧ off + cs.length ≤ cells.length then aFill place (cells.take off ++ cs ++ cells.drop (off + cs.length)) rest else none
    | _, _ => none
def RepP (M : Mem) (β : Bt) : List (Nat × Value) → List (Nat × D) → Prop
  | [], [] => True
  | (i, v) :: vs, (j, d) :: ds => i = j ∧ Rep M β v d ∧ RepP M β vs ds
  | _, _ => False
theorem fill_ok {M : Mem} {β : Bt} {place : Nat → Option (Nat × Nat)} : ∀ (vs : List (Nat × Value)) (ds : List (Nat × D)) (cs : Array Value) (xs ys : List D), RepP M β vs ds → RepL M β cs xs → (∀ d ∈ xs, d.cell = true) → aFill place xs ds = some ys →
    ∃ cs', Instr.fill place cs vs = some cs' ∧ RepL M β cs' ys ∧ (∀ d ∈ ys, d.cell = true) ∧ cs'.size = cs.size
  | [], [], cs, xs, ys, _, hr, hk, h => by
    simp only [aFill, Option.some.injEq] at h
    subst h
    exact ⟨cs, rfl, hr, hk, rfl⟩
  | [], _ :: _, _, _, _, h, _, _, _ => h.elim
  | _ :: _, [], _, _, _, h, _, _, _ => h.elim
  | (i, v) :: vs, (j, d) :: ds, cs, xs, ys, hp, hr, hk, h => by
    obtain ⟨rfl, hv, hp⟩ := hp
    simp only [aFill] at h
    split at h
    · rename_i off size es hpl hes
      split at h
      · rename_i hc
        obtain ⟨hc1, hc2⟩ := hc
        obtain ⟨c1, c2, c3⟩ := hv.cells hes
        have hsz : cs.size = xs.length := hr.1
        have hseg := foldl_seg off v.cells.toList 0 cs (by simp; omega)
        have hx : (v.cells.zipIdx.foldl (fun cs (x : Value × Nat) => cs.setIfInBounds (off + x.2) x.1) cs) = (cs.toList.take off ++ v.cells.toList ++ cs.toList.drop (off + v.cells.toList.length)).toArray := by
          apply Array.ext'
          have e1 : v.cells.zipIdx.toList = v.cells.toList.zipIdx := by simp [Array.toList_zipIdx]
          rw [← Array.foldl_toList, e1]
          simpa using hseg
        have hrep : RepL M β (cs.toList.take off ++ v.cells.toList ++ cs.toList.drop (off + v.cells.toList.length)).toArray (xs.take off ++ es ++ xs.drop (off + es.length)) := by
          refine ⟨by simp; omega, fun k u e hu he => ?_⟩
          simp only [List.getElem?_toArray] at hu
          rw [seg_get _ _ _ _ (by simp; omega)] at hu
          rw [seg_get _ _ _ _ (by omega)] at he
          simp only [Array.length_toList, c1] at hu
          split at hu
          · rename_i hin
            rw [if_pos hin] at he
            exact c2 _ u e (by simpa using hu) he
          · rename_i hin
            rw [if_neg hin] at he
            exact hr.2 k u e (by simpa using hu) he
        obtain ⟨cs', f1, f2, f3, f4⟩ := fill_ok vs ds _ _ ys hp hrep (fun e he => by
          rcases List.mem_append.1 he with h' | h'
          · rcases List.mem_append.1 h' with h'' | h''
            · exact hk e (List.mem_of_mem_take h'')
            · exact c3 e h''
          · exact hk e (List.mem_of_mem_drop h')) h
        refine ⟨cs', ?_, f2, f3, ?_⟩
        · simp only [Instr.fill, hpl]
          rw [if_neg (by simp only [Bool.or_eq_true, decide_eq_true_eq]; omega), hx]
          exact f1
        · rw [f4]; simp; omega
      · cases h
    · cases h

def placeOf (T : Tbl) (fs : List (Nat × TypeId)) (i : Nat) : Option (Nat × Nat) :=
  match fs[i]? with
  | some (off, ft) => (T ft).map fun ti : TI => (off, ti.size)
  | none => none
def aBuild (T : Tbl) (t : TypeId) (parts : List (Nat × D)) : Option D :=
  match T t with
  | some { kind := .struct fs, zero := z, .. } =>
    (aFill (placeOf T fs) z parts).bind fun cs => if fs.all (fun p => (T p.2).isSome) then some (.agg cs) else none
  | some { kind := .arr _ e, zero := z, .. } =>
    match T e with
    | some ei => (aFill (fun i => some (i * ei.size, ei.size)) z parts).map .agg
    | none => none
  | _ => none
theorem mapM_ok {P : Program} {w : World} {α β : Type} (f : α → Sem β) (g : α → β) : ∀ (l : List α), (∀ x ∈ l, (f x).run P w = .ok (g x) w) → (l.mapM f).run P w = .ok (l.map g) w
  | [], _ => by simp
  | x :: l, h => by
    rw [List.mapM_cons]
    simp only [Sem.run_bind, h x (by simp), Result.andThen_ok, mapM_ok f g l (fun y hy => h y (by simp [hy])), Sem.run_pure, List.map_cons]
theorem build_ok {P : Program} {T : Tbl} (hT : T.ok P) {M : Mem} {β : Bt} {w : World} {t : TypeId} {vs : Array (Nat × Value)} {ds : List (Nat × D)} {d : D} (hp : RepP M β vs.toList ds) (ha : aBuild T t ds = some d) :
    ∃ v, (Instr.build t vs).run P w = .ok v w ∧ Rep M β v d := by
  unfold aBuild at ha
  split at ha
  · rename_i sz by_ fs z ht
    obtain ⟨zv, z1, z2, z3, z4⟩ := run_zeroT hT ht w
    simp only at z2
    obtain ⟨dd, h1, h2⟩ := run_underT hT ht w
    cases dd <;> simp only [kindOk] at h2
    rename_i gs
    simp only [Option.bind_eq_some_iff] at ha
    obtain ⟨cs, hc, ha⟩ := ha
    split at ha
    · rename_i hall
      simp only [Option.some.injEq] at ha
      subst ha
      have hz : RepL M β zv.cells z := by
        rw [z2]
        refine ⟨by simp, fun i v d hv hd => ?_⟩
        simp only [List.getElem?_map, Array.getElem?_toList, hv, Option.map_some, Option.some.injEq] at hd
        subst hd
        exact absCell_rep M β v
      have hzk : ∀ d ∈ z, d.cell = true := fun d hd => by
        rw [z2] at hd
        obtain ⟨u, hu, rfl⟩ := List.mem_map.1 hd
        exact absCell_cell u (z4 u hu)
      obtain ⟨cs', f1, f2, f3, f4⟩ := fill_ok vs.toList ds zv.cells z cs hp hz hzk hc
      let g : Field → Nat × Nat := fun f => (f.offset, ((T f.type).map (·.size)).getD 0)
      have hg : ∀ f ∈ gs.toList, ((do pure (f.offset, ← sizeOf f.type)) : Sem (Nat × Nat)).run P w = .ok (g f) w := fun f hf => by
        have : (T f.type).isSome = true := by
          have := List.all_eq_true.1 hall (f.offset, f.type) (by rw [h2]; exact List.mem_map.2 ⟨f, hf, rfl⟩)
          simpa using this
        obtain ⟨ti, hti⟩ := Option.isSome_iff_exists.1 this
        simp [g, hti, run_sizeT hT hti w]
      have hm := mapM_ok (P := P) (w := w) _ g gs.toList hg
      have hm' : (gs.mapM fun f : Field => (do pure (f.offset, ← sizeOf f.type) : Sem (Nat × Nat))).run P w = .ok (gs.map g) w := by
        rw [Array.mapM_eq_mapM_toList]
        simp only [Sem.run_map, hm, Result.andThen_ok]
        congr 1
        apply Array.ext'
        simp
      have hplace : (fun i => (gs.map g)[i]?) = placeOf T fs := by
        funext i
        rw [h2]
        unfold placeOf
        simp only [List.getElem?_map, Array.getElem?_toList, Array.getElem?_map]
        cases hgi : gs[i]? with
        | none => rfl
        | some f =>
          have : (T f.type).isSome = true := by
            have := List.all_eq_true.1 hall (f.offset, f.type) (by rw [h2]; exact List.mem_map.2 ⟨f, by simpa using Array.mem_of_getElem? hgi, rfl⟩)
            simpa using this
          obtain ⟨ti, hti⟩ := Option.isSome_iff_exists.1 this
          simp [g, hti]
      refine ⟨.agg cs', ?_, .agg f2.1 f2.2 f3⟩
      simp only [Instr.build, Sem.run_bind, z1, Result.andThen_ok, h1, hm', hplace, f1, Sem.run_pure]
    · cases ha
  · rename_i sz by_ n e z ht
    split at ha
    · rename_i ei he
      simp only [Option.map_eq_some_iff] at ha
      obtain ⟨cs, hc, rfl⟩ := ha
      obtain ⟨zv, z1, z2, z3, z4⟩ := run_zeroT hT ht w
      simp only at z2
      obtain ⟨dd, h1, h2⟩ := run_underT hT ht w
      cases dd <;> simp only [kindOk] at h2
      obtain ⟨rfl, rfl⟩ := h2
      have hz : RepL M β zv.cells z := by
        rw [z2]
        refine ⟨by simp, fun i v d hv hd => ?_⟩
        simp only [List.getElem?_map, Array.getElem?_toList, hv, Option.map_some, Option.some.injEq] at hd
        subst hd
        exact absCell_rep M β v
      have hzk : ∀ d ∈ z, d.cell = true := fun d hd => by
        rw [z2] at hd
        obtain ⟨u, hu, rfl⟩ := List.mem_map.1 hd
        exact absCell_cell u (z4 u hu)
      obtain ⟨cs', f1, f2, f3, f4⟩ := fill_ok vs.toList ds zv.cells z cs hp hz hzk hc
      refine ⟨.agg cs', ?_, .agg f2.1 f2.2 f3⟩
      simp only [Instr.build, Sem.run_bind, z1, Result.andThen_ok, h1, run_sizeT hT he w, f1, Sem.run_pure]
    · cases ha
  · cases ha

theorem ok_newRow {P : Program} {M : Mem} {β : Bt} {h : List Blk} {w : World} {ν : Nat} (H : HOk M β h w) (hsl : Slot β h ν) (e : TypeId) (cs : Array Value) (fz : Nat × Nat) (sz n : Nat) (elems : List (List D)) (hn : n * sz ≤ cs.size) (hl : elems.length ≤ n) (hs : ∀ c ∈ elems, c.length = sz)
    (hfz : ∀ k, k < n * sz → ¬ (fz.1 ≤ k ∧ k < fz.2)) (hr : ∀ (i j : Nat) c d, elems[i]? = some c → c[j]? = some d → d.cell = true ∧ ∃ v, cs[i * sz + j]? = some v ∧ Rep M β v d) :
    let o : Own := ⟨w.heap.size, sz, n⟩
    HOk M (β.push ν o) (place ν (.cells elems true) h) (w.alloc (.cells cs e fz)) ∧ Good M β w M (β.push ν o) (w.alloc (.cells cs e fz)) ∧ (β.push ν o) ν = some o := by
  intro o
  refine ⟨H.alloc hsl _ o rfl _ ⟨cs, e, fz, World.alloc_heap_new w _, hn, hfz, hl, hs, fun i j c d hi hj => ?_, ?_⟩, Good.alloc _ o rfl hsl.free, by simp⟩
  · obtain ⟨q, v, hv, hd⟩ := hr i j c d hi hj
    exact ⟨q, v, hv, hd.mono (Mle.refl M) (Ole.push o hsl.free)⟩
  · simp only [if_true]
    exact H.none_of_ge (Nat.le_refl _)

/-- Elements, out of cells that lie one behind the other. -/
def aChunks (n : Nat) : Nat → List D → List (List D)
  | 0, _ => []
  | k + 1, l => l.take n :: aChunks n k (l.drop n)
theorem chunks_get {n : Nat} : ∀ (k : Nat) (l : List D) (i j : Nat) (c : List D) (d : D), (aChunks n k l)[i]? = some c → c[j]? = some d → l[i * n + j]? = some d ∧ j < n
  | 0, _, i, _, _, _, h, _ => by simp [aChunks] at h
  | k + 1, l, i, j, c, d, h, hd => by
    cases i with
    | zero =>
      simp only [aChunks, List.getElem?_cons_zero, Option.some.injEq] at h
      subst h
      rw [List.getElem?_take] at hd
      split at hd
      · exact ⟨by simpa using hd, ‹_›⟩
      · cases hd
    | succ i =>
      simp only [aChunks, List.getElem?_cons_succ] at h
      obtain ⟨h1, h2⟩ := chunks_get k (l.drop n) i j c d h hd
      rw [List.getElem?_drop] at h1
      exact ⟨by rw [show (i + 1) * n + j = n + (i * n + j) by rw [Nat.add_mul]; omega]; exact h1, h2⟩
theorem chunks_len {n : Nat} : ∀ (k : Nat) (l : List D), k * n ≤ l.length → (aChunks n k l).length = k ∧ ∀ c ∈ aChunks n k l, c.length = n
  | 0, _, _ => ⟨rfl, by simp [aChunks]⟩
  | k + 1, l, h => by
    rw [Nat.add_mul] at h
    obtain ⟨h1, h2⟩ := chunks_len (n := n) k (l.drop n) (by simp; omega)
    refine ⟨by simp [aChunks, h1], fun c hc => ?_⟩
    simp only [aChunks, List.mem_cons] at hc
    rcases hc with rfl | hc
    · simp; omega
    · exact h2 c hc

/-- n times the zero. -/
def aZeros (n : Nat) (z : List D) : List D := (List.replicate n z).flatten
def aBuildSlice (T : Tbl) (ν : Nat) (t : TypeId) (n : Nat) (parts : List (Nat × D)) (h : List Blk) : Option (D × List Blk) :=
  match T t with
  | some { kind := .slice e, .. } =>
    match T e with
    | some ei =>
      if n * ei.size ≤ 16777216 ∧ ei.zero.length = ei.size then
        match aFill (fun i => some (i * ei.size, ei.size)) (aZeros n ei.zero) parts with
        | some cs => some (.own ν 0 n true, place ν (.cells (aChunks ei.size n cs) true) h)
        | none => none
      else none
    | none => none
  | _ => none
theorem zeros_rep {M : Mem} {β : Bt} (z : Array Value) (n : Nat) (hz : ∀ v ∈ z.toList, v.oneCell' = true) :
    RepL M β ((Array.range (n * z.size)).map (z[· % z.size]!)) (aZeros n (z.toList.map absCell)) ∧ ∀ d ∈ aZeros n (z.toList.map absCell), d.cell = true := by
  have hlen : (aZeros n (z.toList.map absCell)).length = n * z.size := by simp [aZeros]
  refine ⟨⟨by simp [hlen], fun k v d hv hd => ?_⟩, fun d hd => ?_⟩
  · have hk : k < n * z.size := by rw [← hlen]; exact (List.getElem?_eq_some_iff.1 hd).1
    have hz0 : 0 < z.size := by
      rcases Nat.eq_zero_or_pos z.size with r | r
      · rw [r] at hk; omega
      · exact r
    obtain ⟨e, he1, he2⟩ := flatten_get (sz := z.size) hz0 (List.replicate n (z.toList.map absCell)) k d (fun e he => by simp at he; rw [he.2]; simp) hd
    rw [List.getElem?_replicate] at he1
    split at he1
    · simp only [Option.some.injEq] at he1
      subst he1
      have hmod : k % z.size < z.size := Nat.mod_lt _ hz0
      simp only [Array.getElem?_map, Array.getElem?_range, hk, if_true, Option.map_some, Option.some.injEq] at hv
      simp only [List.getElem?_map, Array.getElem?_toList, hmod, getElem?_pos, Option.map_some, Option.some.injEq] at he2
      subst hv; subst he2
      rw [getElem!_pos z (k % z.size) hmod]
      exact absCell_rep M β _
    · cases he1
  · simp only [aZeros, List.mem_flatten, List.mem_replicate] at hd
    obtain ⟨l, ⟨_, rfl⟩, hd⟩ := hd
    obtain ⟨v, hv, rfl⟩ := List.mem_map.1 hd
    exact absCell_cell v (hz v hv)
theorem buildSlice_ok {P : Program} {T : Tbl} (hT : T.ok P) {M : Mem} {β : Bt} {h h' : List Blk} {w : World} {t : TypeId} {n ν : Nat} {vs : Array (Nat × Value)} {ds : List (Nat × D)} {d : D} (H : HOk M β h w) (hsl : Slot β h ν) (hp : RepP M β vs.toList ds)
    (ha : aBuildSlice T ν t n ds h = some (d, h')) : OpOk P ν (Instr.buildSlice t n vs) M β w d h' := by
  unfold aBuildSlice at ha
  split at ha
  · rename_i e _ ht
    split at ha
    · rename_i ei he
      split at ha
      · rename_i hc
        obtain ⟨hc1, hc2⟩ := hc
        split at ha
        · rename_i cs hcs
          simp only [Option.some.injEq, Prod.mk.injEq] at ha
          obtain ⟨rfl, rfl⟩ := ha
          obtain ⟨dd, h1, h2⟩ := run_underT hT ht w
          cases dd <;> simp only [kindOk] at h2
          subst h2
          have hs := run_sizeT hT he w
          obtain ⟨z, z1, z2, z3, z4⟩ := run_zeroT hT he w
          obtain ⟨r1, r2⟩ := zeros_rep (M := M) (β := β) z.cells n z4
          rw [← z2] at r1 r2
          obtain ⟨cs', f1, f2, f3, f4⟩ := fill_ok vs.toList ds _ _ cs hp r1 r2 hcs
          have hsize : cs'.size = n * ei.size := by rw [f4]; simp [z3]
          have hcl : cs.length = n * ei.size := by rw [← f2.1]; exact hsize
          obtain ⟨k1, k2⟩ := chunks_len (n := ei.size) n cs (by omega)
          obtain ⟨q1, q2, q3⟩ := ok_newRow (P := P) H hsl e cs' (0, 0) ei.size n (aChunks ei.size n cs) (by omega) (by omega) k2 (by simp) (fun i j c d hi hj => by
            obtain ⟨g1, g2⟩ := chunks_get n cs i j c d hi hj
            have hlt := (List.getElem?_eq_some_iff.1 g1).1
            refine ⟨f3 d (List.mem_of_getElem? g1), cs'[i * ei.size + j]'(by rw [f2.1]; exact hlt), by simp, f2.2 _ _ d (by simp) g1⟩)
          refine ⟨.slice (some ⟨w.heap.size, 0, none⟩) n n, _, M, _, ?_, ?_, q1, q2, Bt.push_ne β ν _⟩
          · have hnot : ¬ (n * ei.size > 2 ^ 24) := by omega
            simp only [Instr.buildSlice, Sem.run_bind, h1, Result.andThen_ok, hs, Sem.run_ite, if_neg hnot, Sem.run_pure]
            by_cases h0 : n * ei.size = 0
            · have e0 : ((Array.range (n * ei.size)).map ((#[] : Array Value)[· % (#[] : Array Value).size]!)) = (Array.range (n * z.cells.size)).map (z.cells[· % z.cells.size]!) := by
                rw [z3, h0]; simp [Array.range]
              simp only [if_pos h0, Sem.run_pure, Result.andThen_ok, e0, f1, Sem.run_bind, newRow, run_newObj, World.alloc_eq]
            · have e0 : ((Array.range (n * ei.size)).map (z.cells[· % z.cells.size]!)) = (Array.range (n * z.cells.size)).map (z.cells[· % z.cells.size]!) := by
                rw [z3]
              simp only [if_neg h0, Sem.run_bind, z1, Sem.run_pure, Result.andThen_ok, e0, f1, newRow, run_newObj, World.alloc_eq]
          · have := Rep.own (M := M) (id := ν) (off := 0) (len := n) (cap := n) (clip := true) q3 (Nat.le_refl _) (fun _ => rfl) (by simp)
            simpa using this
        · cases ha
      · cases ha
    · cases ha
  · cases ha
end Go.Xa
