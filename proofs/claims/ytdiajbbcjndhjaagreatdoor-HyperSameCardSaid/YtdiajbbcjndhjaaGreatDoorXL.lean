/- The results of calls, free of the callee's own blocks. -/
import Derived.Test.YtdiajbbcjndhjaaGreatDoorXK
namespace Go.Xa
open Go.RowKit

/-- A value, its blocks read out. -/
def conv : Nat → List Blk → D → D
  | 0, _, d => d
  | f + 1, h, d =>
    match d with
    | .own id off len clip =>
      match h[id]? with
      | some (.cells elems _) =>
        if off + len ≤ elems.length then
          let l := ((elems.drop off).take len).map fun e => e.map (conv f h)
          if l.all (fun e => e.all D.pure) then .sl clip l else d
        else d
      | _ => d
    | .ptr id i j =>
      match h[id]? with
      | some (.cells elems _) =>
        match elems[i]? with
        | some e =>
          let l := (e.drop j).map (conv f h)
          if l.all D.pure then .pptr l else d
        | none => d
      | _ => d
    | d => d
theorem pure_cell {d : D} {v : Value} {M : Mem} {β : Bt} (h : d.pure = true) (hr : Rep M β v d) (hv : v.oneCell' = true) : d.cell = true := by
  cases d <;> simp_all [D.pure, D.cell]
  cases hr
  exact hv
/-- All blocks that hold cells are still. -/
def Still (M : Mem) (β : Bt) (h : List Blk) (w : World) : Prop := ∀ (id : Nat) elems wr o, h[id]? = some (.cells elems wr) → β id = some o → M o.b = w.heap[o.b]?
theorem conv_ok' {M : Mem} {β : Bt} {h : List Blk} {w : World} (hblk : ∀ (id : Nat) x o, h[id]? = some x → β id = some o → ∀ elems wr, x = .cells elems wr → ∃ cs ety fz, w.heap[o.b]? = some (.cells cs ety fz) ∧ (∀ e ∈ elems, e.length = o.sz) ∧
      (∀ (i j : Nat) e d, elems[i]? = some e → e[j]? = some d → d.cell = true ∧ ∃ v, cs[i * o.sz + j]? = some v ∧ Rep M β v d)) (hs : Still M β h w) : ∀ (f : Nat) (v : Value) (d : D), Rep M β v d → (conv f h d).pure = true → Rep M Bt.none v (conv f h d) := by
  intro f
  induction f with
  | zero => intro v d hr hp; exact hr.pure hp
  | succ f ih =>
    intro v d hr hp
    unfold conv at hp ⊢
    cases d with
    | own id off len clip =>
      simp only at hp ⊢
      cases hr with
      | own ho hcap hclip hn =>
      rename_i cap o
      split at hp
      · rename_i elems wr hx
        split at hp
        · rename_i hfit
          split at hp
          · rename_i hall
            rw [if_pos hfit, if_pos hall]
            obtain ⟨cs, ety, fz, h1, h2, h3⟩ := hblk id _ o hx ho elems wr rfl
            have hM := hs id elems wr o hx ho
            have hget : ∀ (i : Nat) e, ((elems.drop off).take len)[i]? = some e → elems[off + i]? = some e ∧ i < len := fun i e he => by
              rw [List.getElem?_take] at he
              split at he
              · exact ⟨by rwa [List.getElem?_drop] at he, ‹_›⟩
              · cases he
            refine .sl o.sz o.b (off * o.sz) (fun i j => cs.getD ((off + i) * o.sz + j) default) (by simp; omega) hcap hclip (fun e he => ?_) (fun _ => rfl) (fun i j hi hj => ?_) (fun i j e d he hd => ?_) (fun e he d hd => ?_)
            · obtain ⟨e', he', rfl⟩ := List.mem_map.1 he
              rw [List.length_map]
              exact h2 e' (List.mem_of_mem_drop (List.mem_of_mem_take he'))
            · have hlt : off + i < elems.length := by omega
              have he : elems[off + i]? = some elems[off + i] := by simp [hlt]
              have hjl : j < (elems[off + i]).length := by rw [h2 _ (List.getElem_mem hlt)]; exact hj
              obtain ⟨_, v, hv, _⟩ := h3 (off + i) j _ (elems[off + i][j]) he (by simp [hjl])
              simp only [cellOf, hM, h1]
              rw [show off * o.sz + i * o.sz + j = (off + i) * o.sz + j by rw [Nat.add_mul], hv]
              simp [Array.getD_eq_getD_getElem?, hv]
            · simp only [List.getElem?_map, Option.map_eq_some_iff] at he
              obtain ⟨e', he', rfl⟩ := he
              simp only [List.getElem?_map, Option.map_eq_some_iff] at hd
              obtain ⟨d', hd', rfl⟩ := hd
              obtain ⟨g1, _⟩ := hget i e' he'
              obtain ⟨_, v, hv, hr⟩ := h3 (off + i) j e' d' g1 hd'
              have hpp : (conv f h d').pure = true := by
                have := List.all_eq_true.1 hall (e'.map (conv f h)) (List.mem_map.2 ⟨e', List.mem_of_getElem? he', rfl⟩)
                exact List.all_eq_true.1 this _ (List.mem_map.2 ⟨d', List.mem_of_getElem? hd', rfl⟩)
              have := ih v d' hr hpp
              simpa [Array.getD_eq_getD_getElem?, hv] using this
            · obtain ⟨e', he', rfl⟩ := List.mem_map.1 he
              obtain ⟨d', hd', rfl⟩ := List.mem_map.1 hd
              obtain ⟨i, hi⟩ := List.mem_iff_getElem?.1 he'
              obtain ⟨j, hj⟩ := List.mem_iff_getElem?.1 hd'
              obtain ⟨g1, _⟩ := hget i e' hi
              obtain ⟨hc, v, hv, hr⟩ := h3 (off + i) j e' d' g1 hj
              have hpp : (conv f h d').pure = true := by
                have := List.all_eq_true.1 hall (e'.map (conv f h)) (List.mem_map.2 ⟨e', he', rfl⟩)
                exact List.all_eq_true.1 this _ (List.mem_map.2 ⟨d', hd', rfl⟩)
              exact pure_cell hpp (ih v d' hr hpp) (hr.oneCell hc)
          · simp [D.pure] at hp
        · simp [D.pure] at hp
      · simp [D.pure] at hp
    | ptr id i j =>
      simp only at hp ⊢
      cases hr with
      | ptr ho =>
      rename_i o
      split at hp
      · rename_i elems wr hx
        split at hp
        · rename_i e he
          split at hp
          · rename_i hall
            rw [if_pos hall]
            obtain ⟨cs, ety, fz, h1, h2, h3⟩ := hblk id _ o hx ho elems wr rfl
            have hM := hs id elems wr o hx ho
            refine .pptr (fun k => cs.getD (i * o.sz + (j + k)) default) (fun k hk => ?_) (fun k d hd => ?_) (fun d hd => ?_)
            · simp at hk
              have hlt : j + k < e.length := by omega
              obtain ⟨_, v, hv, _⟩ := h3 i (j + k) e e[j + k] he (by simp [hlt])
              simp only [cellOf, hM, h1]
              rw [show i * o.sz + j + k = i * o.sz + (j + k) by omega, hv]
              simp [Array.getD_eq_getD_getElem?, hv]
            · simp only [List.getElem?_map, Option.map_eq_some_iff, List.getElem?_drop] at hd
              obtain ⟨d', hd', rfl⟩ := hd
              obtain ⟨_, v, hv, hr⟩ := h3 i (j + k) e d' he hd'
              have hpp : (conv f h d').pure = true := List.all_eq_true.1 hall _ (List.mem_map.2 ⟨d', List.mem_of_getElem? (by rw [List.getElem?_drop]; exact hd'), rfl⟩)
              have := ih v d' hr hpp
              simpa [Array.getD_eq_getD_getElem?, hv] using this
            · obtain ⟨d', hd', rfl⟩ := List.mem_map.1 hd
              obtain ⟨k, hk⟩ := List.mem_iff_getElem?.1 hd'
              rw [List.getElem?_drop] at hk
              obtain ⟨hc, v, hv, hr⟩ := h3 i (j + k) e d' he hk
              have hpp : (conv f h d').pure = true := List.all_eq_true.1 hall _ (List.mem_map.2 ⟨d', hd', rfl⟩)
              exact pure_cell hpp (ih v d' hr hpp) (hr.oneCell hc)
          · simp [D.pure] at hp
        · simp [D.pure] at hp
      · simp [D.pure] at hp
    | _ => exact hr.pure hp

/-- A value that names no own block. -/
def D.free0 : D → Bool
  | .fn _ a b => a.all D.pure && b.all D.pure
  | .undef => true
  | d => d.pure
def D.free : D → Bool
  | .agg cs => cs.all D.free0
  | .tup vs => vs.all fun d => match d with | .agg cs => cs.all D.free0 | d => d.free0
  | d => d.free0
theorem Rep.free0 {M : Mem} {β β' : Bt} {v : Value} {d : D} (h : Rep M β v d) (hf : d.free0 = true) : Rep M β' v d := by
  cases d with
  | fn g a b =>
    simp only [D.free0, Bool.and_eq_true, List.all_eq_true] at hf
    cases h with
    | fn h1 h2 hr1 hr2 => exact .fn h1 h2 (fun i v d hv hd => (hr1 i v d hv hd).pure (hf.1 d (List.mem_of_getElem? hd))) (fun i v d hv hd => (hr2 i v d hv hd).pure (hf.2 d (List.mem_of_getElem? hd)))
  | undef => exact .undef
  | _ => exact h.pure hf
theorem Rep.freeA {M : Mem} {β β' : Bt} {v : Value} {cs : List D} (h : Rep M β v (.agg cs)) (hf : cs.all D.free0 = true) : Rep M β' v (.agg cs) := by
  cases h with
  | agg hl hr hk => exact .agg hl (fun i v d hv hd => (hr i v d hv hd).free0 (List.all_eq_true.1 hf d (List.mem_of_getElem? hd))) hk
theorem Rep.free {M : Mem} {β β' : Bt} {v : Value} {d : D} (h : Rep M β v d) (hf : d.free = true) : Rep M β' v d := by
  cases d with
  | agg cs => exact h.freeA hf
  | tup vs =>
    cases h with
    | tup hl hr =>
    refine .tup hl fun i v d hv hd => ?_
    have := List.all_eq_true.1 hf d (List.mem_of_getElem? hd)
    have hrr := hr i v d hv hd
    cases d with
    | agg cs => exact hrr.freeA this
    | _ => exact hrr.free0 this
  | _ => exact h.free0 hf

/-- A cell, a value, a result, freed. -/
def fin0 (h : List Blk) (d : D) : Option D :=
  match d with
  | .fn g a b => if (a.map (conv 8 h)).all D.pure && (b.map (conv 8 h)).all D.pure then some (.fn g (a.map (conv 8 h)) (b.map (conv 8 h))) else none
  | .undef => some .undef
  | d => if (conv 8 h d).pure then some (conv 8 h d) else none
def fin0s (h : List Blk) : List D → Option (List D)
  | [] => some []
  | d :: ds => match fin0 h d, fin0s h ds with | some x, some xs => some (x :: xs) | _, _ => none
def fin1 (h : List Blk) (d : D) : Option D :=
  match d with
  | .agg cs => (fin0s h cs).map .agg
  | d => fin0 h d
def fin1s (h : List Blk) : List D → Option (List D)
  | [] => some []
  | d :: ds => match fin1 h d, fin1s h ds with | some x, some xs => some (x :: xs) | _, _ => none
def fin (h : List Blk) (d : D) : Option D :=
  match d with
  | .tup vs => (fin1s h vs).map .tup
  | d => fin1 h d

section
variable {M : Mem} {β : Bt} {h : List Blk} {w : World} (H : ∀ (f : Nat) (v : Value) (d : D), Rep M β v d → (conv f h d).pure = true → Rep M Bt.none v (conv f h d))
  include H
theorem fin0_ok {v : Value} {d d' : D} (hr : Rep M β v d) (hf : fin0 h d = some d') : Rep M Bt.none v d' ∧ (v.oneCell' = true → d.cell = true → d'.cell = true) := by
  unfold fin0 at hf
  split at hf
  · split at hf
    · rename_i hall
      simp only [Bool.and_eq_true, List.all_eq_true] at hall
      cases hf
      cases hr with
      | fn h1 h2 hr1 hr2 =>
      refine ⟨.fn (by simpa using h1) (by simpa using h2) (fun i v d hv hd => ?_) (fun i v d hv hd => ?_), fun _ _ => rfl⟩
      · simp only [List.getElem?_map, Option.map_eq_some_iff] at hd
        obtain ⟨d', hd', rfl⟩ := hd
        exact H 8 v d' (hr1 i v d' hv hd') (hall.1 _ (List.mem_map.2 ⟨d', List.mem_of_getElem? hd', rfl⟩))
      · simp only [List.getElem?_map, Option.map_eq_some_iff] at hd
        obtain ⟨d', hd', rfl⟩ := hd
        exact H 8 v d' (hr2 i v d' hv hd') (hall.2 _ (List.mem_map.2 ⟨d', List.mem_of_getElem? hd', rfl⟩))
    · cases hf
  · cases hf; exact ⟨.undef, fun _ h => by simp [D.cell] at h⟩
  · split at hf
    · rename_i hp
      cases hf
      have := H 8 v d hr hp
      exact ⟨this, fun hv _ => pure_cell hp this hv⟩
    · cases hf
  omit H in
theorem fin0s_ok : ∀ (ds ds' : List D), fin0s h ds = some ds' → ds'.length = ds.length ∧ ∀ (i : Nat) d d', ds[i]? = some d → ds'[i]? = some d' → fin0 h d = some d'
  | [], ds', hf => by simp only [fin0s, Option.some.injEq] at hf; subst hf; simp
  | d :: ds, ds', hf => by
    simp only [fin0s] at hf
    split at hf
    · rename_i x xs hx hxs
      cases hf
      obtain ⟨h1, h2⟩ := fin0s_ok ds xs hxs
      refine ⟨by simp [h1], fun i e e' he he' => ?_⟩
      cases i with
      | zero => simp at he he'; subst he; subst he'; exact hx
      | succ i => exact h2 i e e' (by simpa using he) (by simpa using he')
    · cases hf
theorem fin1_ok {v : Value} {d d' : D} (hr : Rep M β v d) (hf : fin1 h d = some d') : Rep M Bt.none v d' := by
  unfold fin1 at hf
  split at hf
  · rename_i cs
    simp only [Option.map_eq_some_iff] at hf
    obtain ⟨cs', hc, rfl⟩ := hf
    obtain ⟨h1, h2⟩ := fin0s_ok cs cs' hc
    cases hr with
    | agg hl hr hk =>
    rename_i vs
    have hget : ∀ (i : Nat) e', cs'[i]? = some e' → ∃ e v, cs[i]? = some e ∧ vs[i]? = some v ∧ fin0 h e = some e' := fun i e' he' => by
      have hlt : i < cs.length := by rw [← h1]; exact (List.getElem?_eq_some_iff.1 he').1
      have he : cs[i]? = some cs[i] := by simp [hlt]
      have hv : vs[i]? = some (vs[i]'(by omega)) := by simp [hl, hlt]
      exact ⟨_, _, he, hv, h2 i _ e' he he'⟩
    refine .agg (by omega) (fun i v d hv hd => ?_) (fun d hd => ?_)
    · obtain ⟨e, v', he, hv', hf⟩ := hget i d hd
      rw [hv] at hv'; cases hv'
      exact (fin0_ok H (hr i v e hv he) hf).1
    · obtain ⟨i, hi⟩ := List.mem_iff_getElem?.1 hd
      obtain ⟨e, v', he, hv', hf⟩ := hget i d hi
      have hc := hk e (List.mem_of_getElem? he)
      have hrr := hr i v' e hv' he
      exact (fin0_ok H hrr hf).2 (hrr.oneCell hc) hc
  · exact (fin0_ok H hr hf).1
  omit H in
theorem fin1s_ok : ∀ (ds ds' : List D), fin1s h ds = some ds' → ds'.length = ds.length ∧ ∀ (i : Nat) d d', ds[i]? = some d → ds'[i]? = some d' → fin1 h d = some d'
  | [], ds', hf => by simp only [fin1s, Option.some.injEq] at hf; subst hf; simp
  | d :: ds, ds', hf => by
    simp only [fin1s] at hf
    split at hf
    · rename_i x xs hx hxs
      cases hf
      obtain ⟨h1, h2⟩ := fin1s_ok ds xs hxs
      refine ⟨by simp [h1], fun i e e' he he' => ?_⟩
      cases i with
      | zero => simp at he he'; subst he; subst he'; exact hx
      | succ i => exact h2 i e e' (by simpa using he) (by simpa using he')
    · cases hf
theorem fin_ok {v : Value} {d d' : D} (hr : Rep M β v d) (hf : fin h d = some d') : Rep M Bt.none v d' := by
  unfold fin at hf
  split at hf
  · rename_i vs
    simp only [Option.map_eq_some_iff] at hf
    obtain ⟨vs', hc, rfl⟩ := hf
    obtain ⟨h1, h2⟩ := fin1s_ok vs vs' hc
    cases hr with
    | tup hl hr =>
    rename_i us
    refine .tup (by omega) (fun i v d hv hd => ?_)
    have hlt : i < vs.length := by rw [← h1]; exact (List.getElem?_eq_some_iff.1 hd).1
    have he : vs[i]? = some vs[i] := by simp [hlt]
    exact fin1_ok H (hr i v _ hv he) (h2 i _ d he hd)
  · exact fin1_ok H hr hf
end

/-- Everything that a callee made stands still. -/
theorem HOk.stillAll {M : Mem} {β : Bt} {h : List Blk} {w : World} (H : HOk M β h w) (keep : Nat → Prop) : ∃ M', Mle M M' ∧ (∀ b o, M' b = some o → w.heap[b]? = some o) ∧ (∀ b, M' b ≠ none → M b ≠ none ∨ β.has b) ∧
    (∀ (id : Nat) elems wr o, h[id]? = some (.cells elems wr) → β id = some o → ¬ keep id → M' o.b = w.heap[o.b]?) ∧
    (∀ (id : Nat) x o, h[id]? = some x → x.live = true → β id = some o → keep id → M' o.b = M o.b) := by
  classical
  let S : Nat → Prop := fun b => ∃ (id : Nat) (elems : List (List D)) (wr : Bool) (o : Own), h[id]? = some (.cells elems wr) ∧ β id = some o ∧ o.b = b ∧ ¬ keep id
  refine ⟨fun b => if S b then w.heap[b]? else M b, fun b o hb => ?_, fun b o hb => ?_, fun b hb => ?_, fun id elems wr o hx ho hk => ?_, fun id x o hx hl ho hk => ?_⟩
  · show (if S b then w.heap[b]? else M b) = some o
    split
    · exact H.agree b o hb
    · exact hb
  · simp only at hb
    split at hb
    · exact hb
    · exact H.agree b o hb
  · simp only at hb
    split at hb
    · rename_i hs
      obtain ⟨id, elems, wr, o, hx, ho, rfl, _⟩ := hs
      exact .inr ⟨id, o, ho, rfl⟩
    · exact .inl hb
  · show (if S o.b then w.heap[o.b]? else M o.b) = _
    rw [if_pos ⟨id, elems, wr, o, hx, ho, rfl, hk⟩]
  · show (if S o.b then w.heap[o.b]? else M o.b) = _
    rw [if_neg]
    rintro ⟨id', elems, wr, o', hx', ho', hb, hk'⟩
    have := H.inj id' id _ x o' o hx' hx rfl hl ho' ho hb
    subst this
    exact hk' hk
end Go.Xa
