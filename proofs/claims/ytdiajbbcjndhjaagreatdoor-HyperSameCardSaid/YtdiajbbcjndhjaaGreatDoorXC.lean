/- Loads, stores, addresses, parts of aggregates. -/
import Derived.Test.YtdiajbbcjndhjaaGreatDoorXB
namespace Go.Xa
open Go.RowKit

def aLoad (T : Tbl) (t : TypeId) (p : D) (h : List Blk) : Option D :=
  match T t, aView p h with
  | some i, some l =>
    if i.kind.isAgg then (if i.size ≤ l.length then some (.agg (l.take i.size)) else none)
    else l[0]?
  | _, _ => none
theorem load_ok {P : Program} {T : Tbl} (hT : T.ok P) {M : Mem} {β : Bt} {h : List Blk} {w : World} {t : TypeId} {p : Value} {x d : D} (H : HOk M β h w) (hp : Rep M β p x) (ha : aLoad T t x h = some d) :
    ∃ v, (Instr.loadAt t p).run P w = .ok v w ∧ Rep M β v d := by
  unfold aLoad at ha
  split at ha
  · rename_i i l hi hv
    obtain ⟨b, off, vs, rfl, hl, h1, h2, h3⟩ := view_ok H hp hv
    have hg := run_aggT hT hi w
    have hs := run_sizeT hT hi w
    split at ha
    · rename_i hk
      split at ha
      · rename_i hsz
        simp only [Option.some.injEq] at ha
        subst ha
        have hld := run_loadCellsX (P := P) w b off (vs.take i.size) (fun j v hj => by
          rw [List.getElem?_take] at hj
          split at hj
          · exact h1 j v hj
          · cases hj)
        have hlen : (vs.take i.size).length = i.size := by simp; omega
        rw [hlen] at hld
        refine ⟨.agg (vs.take i.size).toArray, ?_, .agg (by simp; omega) (fun j v d hv hd => ?_) (fun d hd => h3 d (List.mem_of_mem_take hd))⟩
        · simp [Instr.loadAt, Instr.sureAddr, loadVar, hg, hk, hs, hld]
        · simp only [List.getElem?_toArray] at hv
          rw [List.getElem?_take] at hv hd
          split at hv
          · rename_i hj
            simp only [hj, if_true] at hd
            exact h2 j v d hv hd
          · cases hv
      · cases ha
    · rename_i hk
      have h0 : 0 < vs.length := by
        rw [hl]
        exact (List.getElem?_eq_some_iff.1 ha).1
      have hv0 : vs[0]? = some vs[0] := by simp [h0]
      have hc := h1 0 _ hv0
      refine ⟨vs[0], ?_, h2 0 _ d hv0 ha⟩
      have hk' : i.kind.isAgg = false := by simpa using hk
      simp only [Nat.add_zero] at hc
      simp [Instr.loadAt, Instr.sureAddr, loadVar, hg, hk', hc]
  · cases ha

theorem run_storeCellsX (P : Program) (g o : Nat) (t : TypeId) (fz : Nat × Nat) : ∀ (vs : List Value) (i : Nat) (cur : Array Value) (w : World), w.heap[g]? = some (.cells cur t fz) →
    (∀ k, o + i ≤ k → k < o + i + vs.length → ¬ (fz.1 ≤ k ∧ k < fz.2)) → o + i + vs.length ≤ cur.size → (∀ v ∈ vs, v.oneCell' = true) →
    (storeCells ⟨g, o, none⟩ vs i).run P w = .ok () (w.setRow g (cur.toList.take (o + i) ++ vs ++ cur.toList.drop (o + i + vs.length)).toArray)
  | [], i, cur, w, hg, _, _, _ => by
    simp only [storeCells, List.append_nil, List.length_nil, Nat.add_zero, List.take_append_drop, Array.toArray_toList]
    rw [setRow_self w g cur t fz hg]
    rfl
  | v :: rest, i, cur, w, hg, hfz, hl, h1 => by
    have hi : o + i < cur.size := by simp at hl; omega
    have hadd : (⟨g, o, none⟩ : Addr).add i = ⟨g, o + i, none⟩ := Addr.add_lit g o i
    have hcell : w.cell? ⟨g, o + i, none⟩ = some cur[o + i] := by simp [World.cell?, hg, hi]
    have hfro : w.frozen? ⟨g, o + i, none⟩ = false := by
      have hz := hfz (o + i) (Nat.le_refl _) (by simp)
      obtain ⟨lo, hi'⟩ := fz
      simp only [World.frozen?, hg, Bool.and_eq_false_iff, decide_eq_false_iff_not]
      simp only at hz
      omega
    have hst : (store ((⟨g, o, none⟩ : Addr).add i) v).run P w = .ok () (w.setRow g (cur.setIfInBounds (o + i) v)) := by
      rw [hadd, run_store P w _ v _ (h1 v (by simp)), hcell]
      simp [hfro, setCell_eq_setRow w g (o + i) cur t fz v hg]
    have ih := run_storeCellsX P g o t fz rest (i + 1) (cur.setIfInBounds (o + i) v) (w.setRow g (cur.setIfInBounds (o + i) v)) (setRow_heap w g cur _ t _ hg)
      (fun k hk1 hk2 => hfz k (by omega) (by simp at hk2 ⊢; omega)) (by simp at hl ⊢; omega) (fun x hx => h1 x (by simp [hx]))
    simp only [storeCells, Sem.run_bind, hst, Result.andThen_ok, ih, setRow_setRow]
    congr 3
    have e := list_seg_step cur.toList (o + i) v rest (by simp at hl ⊢; omega)
    simpa [Array.toList_setIfInBounds, Nat.add_assoc] using e

/-- A writable block's cells turn. -/
theorem HOk.setRow {M : Mem} {β : Bt} {h : List Blk} {w : World} (H : HOk M β h w) {id : Nat} {o : Own} {elems elems' : List (List D)} {cs cs' : Array Value} {ety : TypeId} {fz : Nat × Nat}
    (hx : h[id]? = some (.cells elems true)) (ho : β id = some o) (hc : w.heap[o.b]? = some (.cells cs ety fz)) (hs : cs'.size = cs.size)
    (hn : elems'.length ≤ o.n) (hsz : ∀ e ∈ elems', e.length = o.sz)
    (hr : ∀ (i j : Nat) e d, elems'[i]? = some e → e[j]? = some d → d.cell = true ∧ ∃ v, cs'[i * o.sz + j]? = some v ∧ Rep M β v d) :
    HOk M β (h.set id (.cells elems' true)) (w.setRow o.b cs') ∧ Good M β w M β (w.setRow o.b cs') := by
  obtain ⟨cs0, ety0, fz0, h1, h2, h3, h4, h5, h6, h7⟩ := H.blk id _ o hx ho
  rw [hc] at h1
  cases h1
  have hM : M o.b = none := by simpa using h7
  have hsize : (w.setRow o.b cs').heap.size = w.heap.size := by simp [World.setRow]
  refine ⟨H.turn hx ho rfl hM hsize (fun k hk => setRow_other w o.b k cs' hk) ?_, Good.turn ho hsize (fun k hk => setRow_other w o.b k cs' hk) rfl rfl rfl⟩
  exact ⟨cs', ety, fz, setRow_heap w o.b cs cs' ety fz hc, by rw [hs]; exact h2, h3, hn, hsz, hr, by simpa using hM⟩

theorem seg_get {α : Type} (l vs : List α) (o k : Nat) (h : o + vs.length ≤ l.length) : (l.take o ++ vs ++ l.drop (o + vs.length))[k]? = if o ≤ k ∧ k < o + vs.length then vs[k - o]? else l[k]? := by
  by_cases h1 : k < o
  · rw [if_neg (by omega), List.append_assoc, List.getElem?_append_left (by simp; omega), List.getElem?_take, if_pos h1]
  · by_cases h2 : k < o + vs.length
    · rw [if_pos ⟨by omega, h2⟩, List.append_assoc, List.getElem?_append_right (by simp; omega), List.getElem?_append_left (by simp; omega)]
      congr 1
      simp; omega
    · rw [if_neg (by omega), List.getElem?_append_right (by simp; omega), List.getElem?_drop]
      congr 1
      simp; omega

def aStore (T : Tbl) (t : TypeId) (p x : D) (h : List Blk) : Option (List Blk) :=
  match p, T t, x.cells with
  | .ptr id i j, some ti, some cs =>
    match h[id]? with
    | some (.cells elems true) =>
      match elems[i]? with
      | some e => if ti.size = cs.length ∧ j + cs.length ≤ e.length then some (h.set id (.cells (elems.set i (e.take j ++ cs ++ e.drop (j + cs.length))) true)) else none
      | none => none
    | _ => none
  | _, _, _ => none

theorem mul_apart {a b s j k : Nat} (h : a ≠ b) (hj : j < s) (hk : k < s) : a * s + j ≠ b * s + k := by
  rcases Nat.lt_or_gt_of_ne h with h1 | h1
  · have := Nat.mul_le_mul_right s (show a + 1 ≤ b by omega)
    rw [Nat.add_mul] at this
    omega
  · have := Nat.mul_le_mul_right s (show b + 1 ≤ a by omega)
    rw [Nat.add_mul] at this
    omega
theorem mul_within {i n s j : Nat} (h : i < n) (hj : j < s) : i * s + j < n * s := by
  have := Nat.mul_le_mul_right s (show i + 1 ≤ n by omega)
  rw [Nat.add_mul] at this
  omega

theorem store_ok {P : Program} {T : Tbl} (hT : T.ok P) {M : Mem} {β : Bt} {h h' : List Blk} {w : World} {t : TypeId} {p v : Value} {x y : D} (H : HOk M β h w) (hp : Rep M β p x) (hv : Rep M β v y)
    (ha : aStore T t x y h = some h') : ∃ w', (Instr.storeAt t p v).run P w = .ok () w' ∧ HOk M β h' w' ∧ Good M β w M β w' := by
  unfold aStore at ha
  split at ha
  · rename_i id i j ti cs hti hcs
    split at ha
    · rename_i elems hb
      split at ha
      · rename_i e he
        split at ha
        · rename_i hcond
          obtain ⟨hsz, hfit⟩ := hcond
          simp only [Option.some.injEq] at ha
          subst ha
          cases hp with
          | ptr ho =>
          rename_i o
          obtain ⟨cur, ety, fz, h1, h2, h3, h4, h5, h6, h7⟩ := H.blk id _ o hb ho
          obtain ⟨c1, c2, c3⟩ := hv.cells hcs
          have hel : e.length = o.sz := h5 e (List.mem_of_getElem? he)
          have hi : i < elems.length := (List.getElem?_eq_some_iff.1 he).1
          have hvl : v.cells.toList.length = cs.length := by simpa using c1
          have hin : i * o.sz + j + cs.length ≤ o.n * o.sz := by
            by_cases h0 : cs.length = 0
            · have := Nat.mul_le_mul_right o.sz (show i + 1 ≤ o.n by omega)
              rw [Nat.add_mul] at this
              omega
            · have := mul_within (i := i) (n := o.n) (s := o.sz) (j := j + cs.length - 1) (by omega) (by omega)
              omega
          have hst := run_storeCellsX P o.b (i * o.sz + j) ety fz v.cells.toList 0 cur w h1 (fun k hk1 hk2 => h3 k (by omega)) (by omega) (fun u hu => by
            obtain ⟨k, hk⟩ := List.mem_iff_getElem?.1 hu
            have hk' : k < cs.length := by rw [← hvl]; exact (List.getElem?_eq_some_iff.1 hk).1
            exact (c2 k u cs[k] (by simpa using hk) (by simp [hk'])).oneCell (c3 _ (List.getElem_mem hk')))
          simp only [Nat.add_zero] at hst
          have hrow := H.setRow (id := id) (o := o) (elems' := elems.set i (e.take j ++ cs ++ e.drop (j + cs.length)))
            (cs' := (cur.toList.take (i * o.sz + j) ++ v.cells.toList ++ cur.toList.drop (i * o.sz + j + v.cells.toList.length)).toArray) hb ho h1 (by simp; omega) (by simpa using h4)
            (fun e' he' => by
              rcases List.mem_or_eq_of_mem_set he' with h' | h'
              · exact h5 e' h'
              · subst h'; simp; omega) (fun i' j' e' d hi' hj' => by
              simp only [List.getElem?_toArray]
              rw [seg_get _ _ _ _ (by simp; omega)]
              by_cases hii : i = i'
              · subst hii
                rw [List.getElem?_set_self hi] at hi'
                simp only [Option.some.injEq] at hi'
                subst hi'
                rw [seg_get _ _ _ _ hfit] at hj'
                by_cases hjj : j ≤ j' ∧ j' < j + cs.length
                · rw [if_pos hjj] at hj'
                  rw [if_pos (by omega), show i * o.sz + j' - (i * o.sz + j) = j' - j by omega]
                  have hlt : j' - j < v.cells.toList.length := by omega
                  refine ⟨c3 d (List.mem_of_getElem? hj'), v.cells.toList[j' - j], by simp, c2 (j' - j) _ d ?_ hj'⟩
                  simp
                · rw [if_neg hjj] at hj'
                  rw [if_neg (by omega)]
                  simpa using h6 i j' e d he hj'
              · rw [List.getElem?_set_ne hii] at hi'
                have hlen' : j' < o.sz := by rw [← h5 e' (List.mem_of_getElem? hi')]; exact (List.getElem?_eq_some_iff.1 hj').1
                rw [if_neg]
                · simpa using h6 i' j' e' d hi' hj'
                · rintro ⟨g1, g2⟩
                  have := mul_apart (a := i) (b := i') (s := o.sz) (j := i' * o.sz + j' - i * o.sz) (k := j') hii (by omega) hlen'
                  omega)
          refine ⟨_, ?_, hrow.1, hrow.2⟩
          have hs := run_sizeT hT hti w
          simp only [Instr.storeAt, Instr.sureAddr, storeVar, Sem.run_bind, Sem.run_pure, Result.andThen_ok, hs]
          rw [Sem.run_ite, if_neg (by omega)]
          simpa using hst
        · cases ha
      · cases ha
    · cases ha
  · cases ha
end Go.Xa
