/- Cleaning up behind a call; calls of function values. -/
import Derived.Test.YtdiajbbcjndhjaaGreatDoorXM
namespace Go.Xa
open Go.RowKit

theorem Rep.lt0 {M : Mem} {β β' : Bt} {n : Nat} (hb : ∀ i o, i < n → β i = some o → β' i = some o) {v : Value} {d : D} (h : Rep M β v d) (hf : d.lt0 n = true) : Rep M β' v d := by
  cases d with
  | ptr id i j =>
    simp only [D.lt0, decide_eq_true_eq] at hf
    cases h with
    | ptr ho => exact .ptr (hb _ _ hf ho)
  | own id off len clip =>
    simp only [D.lt0, decide_eq_true_eq] at hf
    cases h with
    | own ho h1 h2 h3 => exact .own (hb _ _ hf ho) h1 h2 h3
  | yield l =>
    simp only [D.lt0, decide_eq_true_eq] at hf
    cases h with
    | yield ho => exact .yield (hb _ _ hf ho)
  | _ => exact h.free0 hf

section
variable {M : Mem} {β β2 : Bt} {h : List Blk} {n : Nat} (H : ∀ (f : Nat) (v : Value) (d : D), Rep M β v d → (conv f h d).pure = true → Rep M Bt.none v (conv f h d)) (hb : ∀ i o, i < n → β i = some o → β2 i = some o)
  include H hb
theorem clean0_ok {v : Value} {d d' : D} (hr : Rep M β v d) (hf : clean0 n h d = some d') : Rep M β2 v d' ∧ (v.oneCell' = true → d.cell = true → d'.cell = true) := by
  unfold clean0 at hf
  split at hf
  · rename_i x hx
    cases hf
    obtain ⟨h1, h2⟩ := fin0_ok H hr hx
    exact ⟨h1.mono (Mle.refl M) (Ole.nil _), h2⟩
  · split at hf
    · rename_i hl
      cases hf
      exact ⟨hr.lt0 hb hl, fun _ h => h⟩
    · cases hf
end
theorem clean0s_get {n : Nat} {h : List Blk} : ∀ (ds ds' : List D), clean0s n h ds = some ds' → ds'.length = ds.length ∧ ∀ (i : Nat) d', ds'[i]? = some d' → ∃ d, ds[i]? = some d ∧ clean0 n h d = some d'
  | [], ds', hf => by simp only [clean0s, Option.some.injEq] at hf; subst hf; simp
  | d :: ds, ds', hf => by
    simp only [clean0s] at hf
    split at hf
    · rename_i x xs hx hxs
      cases hf
      obtain ⟨h1, h2⟩ := clean0s_get ds xs hxs
      refine ⟨by simp [h1], fun i e' he' => ?_⟩
      cases i with
      | zero => simp at he'; subst he'; exact ⟨d, rfl, hx⟩
      | succ i => obtain ⟨e, g1, g2⟩ := h2 i e' (by simpa using he'); exact ⟨e, by simpa using g1, g2⟩
    · cases hf
theorem cleanEs_get {n : Nat} {h : List Blk} : ∀ (ds ds' : List (List D)), cleanEs n h ds = some ds' → ds'.length = ds.length ∧ ∀ (i : Nat) e', ds'[i]? = some e' → ∃ e, ds[i]? = some e ∧ clean0s n h e = some e'
  | [], ds', hf => by simp only [cleanEs, Option.some.injEq] at hf; subst hf; simp
  | d :: ds, ds', hf => by
    simp only [cleanEs] at hf
    split at hf
    · rename_i x xs hx hxs
      cases hf
      obtain ⟨h1, h2⟩ := cleanEs_get ds xs hxs
      refine ⟨by simp [h1], fun i e' he' => ?_⟩
      cases i with
      | zero => simp at he'; subst he'; exact ⟨d, rfl, hx⟩
      | succ i => obtain ⟨e, g1, g2⟩ := h2 i e' (by simpa using he'); exact ⟨e, by simpa using g1, g2⟩
    · cases hf
theorem cleanBlks_get {n : Nat} {h : List Blk} : ∀ (ds ds' : List Blk), cleanBlks n h ds = some ds' → ds'.length = ds.length ∧ ∀ (i : Nat) x', ds'[i]? = some x' → ∃ x, ds[i]? = some x ∧ cleanBlk n h x = some x'
  | [], ds', hf => by simp only [cleanBlks, Option.some.injEq] at hf; subst hf; simp
  | d :: ds, ds', hf => by
    simp only [cleanBlks] at hf
    split at hf
    · rename_i x xs hx hxs
      cases hf
      obtain ⟨h1, h2⟩ := cleanBlks_get ds xs hxs
      refine ⟨by simp [h1], fun i e' he' => ?_⟩
      cases i with
      | zero => simp at he'; subst he'; exact ⟨d, rfl, hx⟩
      | succ i => obtain ⟨e, g1, g2⟩ := h2 i e' (by simpa using he'); exact ⟨e, by simpa using g1, g2⟩
    · cases hf
theorem cleanBlk_live {n : Nat} {h : List Blk} {x x' : Blk} (hf : cleanBlk n h x = some x') : x'.live = x.live := by
  cases x with
  | cells elems wr => simp only [cleanBlk, Option.map_eq_some_iff] at hf; obtain ⟨l, _, rfl⟩ := hf; rfl
  | dead => simp only [cleanBlk, Option.some.injEq] at hf; subst hf; rfl
  | dfr => simp only [cleanBlk, Option.some.injEq] at hf; subst hf; rfl
  | loop => simp [cleanBlk] at hf

theorem deadBelow_get {n i : Nat} {h : List Blk} {elems : List (List D)} {wr : Bool} (hx : (deadBelow n h)[i]? = some (.cells elems wr)) : n ≤ i ∧ h[i]? = some (.cells elems wr) := by
  unfold deadBelow at hx
  by_cases hi : i < min n h.length
  · rw [List.getElem?_append_left (by simpa using hi), List.getElem?_replicate] at hx
    split at hx <;> cases hx
  · rw [List.getElem?_append_right (by simpa using hi), List.getElem?_drop] at hx
    simp only [List.length_replicate] at hx
    have hlt := (List.getElem?_eq_some_iff.1 hx).1
    have hn : n ≤ h.length := by omega
    rw [Nat.min_eq_left hn] at hx hi
    rw [show n + (i - n) = i by omega] at hx
    exact ⟨by omega, hx⟩

theorem clean_ok {M M' : Mem} {β β' : Bt} {h h' : List Blk} {w w' : World} {v : Value} {d : D} {G : Nat → D} (H : HOk M β h w) (hg : Good M β w M' β' w') (hk : Keep h.length β β') (H' : HOk M' β' h' w') (hr : Rep M' β' v d) :
    ∃ M2 β2, Good M β w M2 β2 w' ∧ Keep h.length β β2 ∧ HOk M2 β2 (clean h.length d h').2 w' ∧ Rep M2 β2 v (clean h.length d h').1 := by
  unfold clean
  split
  · rename_i d2 h2 hd hh
    obtain ⟨M2, m1, m2, m3, m4, m5⟩ := H'.stillAll (· < h.length)
    have hblk : ∀ (i : Nat) x p, (deadBelow h.length h')[i]? = some x → β' i = some p → ∀ elems wr, x = .cells elems wr → ∃ cs ety fz, w'.heap[p.b]? = some (.cells cs ety fz) ∧ (∀ e ∈ elems, e.length = p.sz) ∧
        (∀ (i j : Nat) e d, elems[i]? = some e → e[j]? = some d → d.cell = true ∧ ∃ v, cs[i * p.sz + j]? = some v ∧ Rep M2 β' v d) := by
      intro i x p hx hp elems' wr' he
      subst he
      obtain ⟨_, hx⟩ := deadBelow_get hx
      obtain ⟨cs, ety, fz, k1, k2, k3, k4, k5, k6, k7⟩ := H'.blk i _ p hx hp
      exact ⟨cs, ety, fz, k1, k5, fun i j e d a b => let ⟨c, v, hv, hr⟩ := k6 i j e d a b; ⟨c, v, hv, hr.mono m1 (Ole.refl β')⟩⟩
    have hst : Still M2 β' (deadBelow h.length h') w' := fun i elems' wr' p hx hp => by
      obtain ⟨hi, hx⟩ := deadBelow_get hx
      exact m4 i elems' wr' p hx hp (by omega)
    have hconv := conv_ok' hblk hst
    let β2 : Bt := fun i => if i < h.length then β' i else none
    have hb : ∀ i o, i < h.length → β' i = some o → β2 i = some o := fun i o hi ho => by simp [β2, hi, ho]
    have hb' : ∀ i o, β2 i = some o → i < h.length ∧ β' i = some o := fun i o ho => by
      simp only [β2] at ho
      split at ho
      · exact ⟨‹_›, ho⟩
      · cases ho
    obtain ⟨c1, c2⟩ := cleanBlks_get _ _ hh
    have hold : ∀ (i : Nat) x', h2[i]? = some x' → ∃ x, h'[i]? = some x ∧ i < h.length ∧ cleanBlk h.length (deadBelow h.length h') x = some x' := fun i x' hx' => by
      obtain ⟨x, g1, g2⟩ := c2 i x' hx'
      rw [List.getElem?_take] at g1
      split at g1
      · exact ⟨x, g1, ‹_›, g2⟩
      · cases g1
    have hhas : ∀ k, β2.has k → β'.has k := fun k ⟨i, o, ho, hk⟩ => ⟨i, o, (hb' i o ho).2, hk⟩
    refine ⟨M2, β2, ⟨hg.mle.trans m1, fun i o ho => ?_, hg.ext, fun k hk => hg.new k (hhas k hk), fun b hb => ?_⟩, fun i hi hn => by simp [β2, hi, hk i hi hn], ⟨fun id x' o hx' ho => ?_, fun id x' hx' hl => ?_, fun id hid => ?_, fun i j x y o p hx hy lx ly ho hp hop => ?_, m2, fun id o ho => H'.lt id o (hb' id o ho).2⟩,
      (fin_ok hconv (hr.mono m1 (Ole.refl β')) hd).mono (Mle.refl M2) (Ole.nil _)⟩
    · have hlt : i < h.length := by
        rcases Nat.lt_or_ge i h.length with r | r
        · exact r
        · rw [H.ge i r] at ho; cases ho
      exact hb i o hlt (hg.ole i o ho)
    · rcases m3 b hb with r | r
      · exact hg.mnew b r
      · exact .inr (hg.new b r)
    · obtain ⟨x, g1, g2, g3⟩ := hold id x' hx'
      obtain ⟨_, ho'⟩ := hb' id o ho
      have hB := H'.blk id x o g1 ho'
      cases x with
      | cells elems wr =>
        simp only [cleanBlk, Option.map_eq_some_iff] at g3
        obtain ⟨l, hl, rfl⟩ := g3
        obtain ⟨e1, e2⟩ := cleanEs_get _ _ hl
        obtain ⟨cs, ety, fz, k1, k2, k3, k4, k5, k6, k7⟩ := hB
        refine ⟨cs, ety, fz, k1, k2, k3, by omega, fun e he => ?_, fun i j e d he hd => ?_, ?_⟩
        · obtain ⟨i, hi⟩ := List.mem_iff_getElem?.1 he
          obtain ⟨e0, q1, q2⟩ := e2 i e hi
          rw [(clean0s_get _ _ q2).1]
          exact k5 e0 (List.mem_of_getElem? q1)
        · obtain ⟨e0, q1, q2⟩ := e2 i e he
          obtain ⟨d0, r1, r2⟩ := (clean0s_get _ _ q2).2 j d hd
          obtain ⟨hc, v0, hv0, hr0⟩ := k6 i j e0 d0 q1 r1
          obtain ⟨s1, s2⟩ := clean0_ok hconv hb (hr0.mono m1 (Ole.refl β')) r2
          exact ⟨s2 (hr0.oneCell hc) hc, v0, hv0, s1⟩
        · have := m5 id _ o g1 rfl ho' g2
          rw [this]
          exact k7
      | dead => simp only [cleanBlk, Option.some.injEq] at g3; subst g3; trivial
      | dfr =>
        simp only [cleanBlk, Option.some.injEq] at g3; subst g3
        exact ⟨hB.1, by rw [m5 id _ o g1 rfl ho' g2]; exact hB.2⟩
      | loop => simp [cleanBlk] at g3
    · obtain ⟨x, g1, g2, g3⟩ := hold id x' hx'
      rw [cleanBlk_live g3] at hl
      obtain ⟨o, ho⟩ := H'.has id x g1 hl
      exact ⟨o, hb id o g2 ho⟩
    · show (if id < h.length then β' id else none) = none
      split
      · rename_i hlt
        refine H'.ge id ?_
        rw [c1] at hid
        simp at hid
        omega
      · rfl
    · obtain ⟨x0, g1, g2, g3⟩ := hold i x hx
      obtain ⟨y0, k1, k2, k3⟩ := hold j y hy
      rw [cleanBlk_live g3] at lx
      rw [cleanBlk_live k3] at ly
      exact H'.inj i j x0 y0 o p g1 k1 lx ly (hb' i o ho).2 (hb' j p hp).2 hop
  · exact ⟨M', β', hg, hk, H', hr⟩

theorem RepL.append {M : Mem} {β : Bt} {vs us : Array Value} {xs ys : List D} (h1 : RepL M β vs xs) (h2 : RepL M β us ys) : RepL M β (vs ++ us) (xs ++ ys) := by
  refine ⟨by simp [h1.1, h2.1], fun i v d hv hd => ?_⟩
  by_cases hi : i < xs.length
  · rw [List.getElem?_append_left hi] at hd
    rw [Array.getElem?_append_left (by rw [h1.1]; exact hi)] at hv
    exact h1.2 i v d hv hd
  · rw [List.getElem?_append_right (by omega)] at hd
    rw [Array.getElem?_append_right (by rw [h1.1]; omega), h1.1] at hv
    exact h2.2 _ v d hv hd
theorem RepL.free {M : Mem} {β β' : Bt} {vs : Array Value} {xs : List D} (h : RepL M β vs xs) (hf : xs.all D.free = true) : RepL M β' vs xs :=
  ⟨h.1, fun i v d hv hd => (h.2 i v d hv hd).free (List.all_eq_true.1 hf d (List.mem_of_getElem? hd))⟩

theorem Rep.scalar0 {M M' : Mem} {β β' : Bt} {v : Value} {d : D} (h : Rep M β v d) (hs : d.scalar0 = true) : Rep M' β' v d := by
  cases h <;> first | (simp [D.scalar0] at hs; done) | constructor
  assumption
theorem Rep.scalar1 {M M' : Mem} {β β' : Bt} {v : Value} {d : D} (h : Rep M β v d) (hs : d.scalar1 = true) : Rep M' β' v d := by
  cases d with
  | agg cs =>
    cases h with
    | agg hl hr hk => exact .agg hl (fun i v d hv hd => (hr i v d hv hd).scalar0 (List.all_eq_true.1 hs d (List.mem_of_getElem? hd))) hk
  | _ => exact h.scalar0 hs
theorem Rep.scalar {M M' : Mem} {β β' : Bt} {v : Value} {d : D} (h : Rep M β v d) (hs : d.scalar = true) : Rep M' β' v d := by
  cases d with
  | tup vs =>
    cases h with
    | tup hl hr => exact .tup hl fun i v d hv hd => (hr i v d hv hd).scalar1 (List.all_eq_true.1 hs d (List.mem_of_getElem? hd))
  | _ => exact h.scalar1 hs
theorem fins_get {h : List Blk} : ∀ (ds ds' : List D), fins h ds = some ds' → ds'.length = ds.length ∧ ∀ (i : Nat) d', ds'[i]? = some d' → ∃ d, ds[i]? = some d ∧ fin h d = some d'
  | [], ds', hf => by simp only [fins, Option.some.injEq] at hf; subst hf; simp
  | d :: ds, ds', hf => by
    simp only [fins] at hf
    split at hf
    · rename_i x xs hx hxs
      cases hf
      obtain ⟨h1, h2⟩ := fins_get ds xs hxs
      refine ⟨by simp [h1], fun i e' he' => ?_⟩
      cases i with
      | zero => simp at he'; subst he'; exact ⟨d, rfl, hx⟩
      | succ i => obtain ⟨e, g1, g2⟩ := h2 i e' (by simpa using he'); exact ⟨e, by simpa using g1, g2⟩
    · cases hf

theorem maskGo_get {m : Nat} : ∀ (h : List Blk) (i j : Nat), (maskGo m i h)[j]? = (h[j]?).map fun x => if m.testBit (i + j) then x else .dead
  | [], i, j => by simp [maskGo]
  | x :: h, i, j => by
    cases j with
    | zero => simp [maskGo]
    | succ j =>
      simp only [maskGo, List.getElem?_cons_succ]
      rw [maskGo_get h (i + 1) j, show i + 1 + j = i + (j + 1) by omega]
theorem mask_get {m : Nat} {h : List Blk} {j : Nat} : (mask m h)[j]? = (h[j]?).map fun x => if m.testBit j then x else .dead := by
  unfold mask
  rw [maskGo_get, Nat.zero_add]
theorem mask_len {m : Nat} : ∀ (h : List Blk) (i : Nat), (maskGo m i h).length = h.length
  | [], i => rfl
  | x :: h, i => by simp [maskGo, mask_len h (i + 1)]
theorem HOk.mask {M : Mem} {β : Bt} {h : List Blk} {w : World} (H : HOk M β h w) (m : Nat) : HOk M β (mask m h) w := by
  have old : ∀ (i : Nat) (x : Blk), (Go.Xa.mask m h)[i]? = some x → h[i]? = some x ∨ x = .dead := fun i x hx => by
    rw [mask_get] at hx
    simp only [Option.map_eq_some_iff] at hx
    obtain ⟨y, hy, rfl⟩ := hx
    split
    · exact .inl hy
    · exact .inr rfl
  refine ⟨fun id x o hx ho => ?_, fun id x hx hl => ?_, fun id hid => H.ge id (by rwa [Go.Xa.mask, mask_len] at hid), fun i j x y o p hx hy lx ly ho hp hop => ?_, H.agree, H.lt⟩
  · rcases old id x hx with h1 | rfl
    · exact H.blk id x o h1 ho
    · trivial
  · rcases old id x hx with h1 | rfl
    · exact H.has id x h1 hl
    · cases hl
  · rcases old i x hx with h1 | rfl
    · rcases old j y hy with h2 | rfl
      · exact H.inj i j x y o p h1 h2 lx ly ho hp hop
      · cases ly
    · cases lx

theorem freezeGo_get {m : Nat} : ∀ (h : List Blk) (i j : Nat), (freezeGo m i h)[j]? = (h[j]?).map fun x => if m.testBit (i + j) then x.shut else x
  | [], i, j => by simp [freezeGo]
  | x :: h, i, j => by
    cases j with
    | zero => simp [freezeGo]
    | succ j =>
      simp only [freezeGo, List.getElem?_cons_succ]
      rw [freezeGo_get h (i + 1) j, show i + 1 + j = i + (j + 1) by omega]
theorem freezeM_get {m : Nat} {h : List Blk} {j : Nat} : (freezeM m h)[j]? = (h[j]?).map fun x => if m.testBit j then x.shut else x := by
  unfold freezeM
  rw [freezeGo_get, Nat.zero_add]
theorem freeze_len {m : Nat} : ∀ (h : List Blk) (i : Nat), (freezeGo m i h).length = h.length
  | [], i => rfl
  | x :: h, i => by simp [freezeGo, freeze_len h (i + 1)]
theorem freezeM_len {m : Nat} (h : List Blk) : (freezeM m h).length = h.length := freeze_len h 0
theorem Slot.freezeM {β : Bt} {h : List Blk} {ν : Nat} (hs : Slot β h ν) (m : Nat) : Slot β (freezeM m h) ν := by
  refine ⟨hs.free, ?_⟩
  rw [freezeM_len]
  rcases hs.at_ with r | r
  · exact .inl r
  · right
    rw [freezeM_get, r]
    simp [Blk.shut]
theorem HOk.freezeM {M : Mem} {β : Bt} {h : List Blk} {w : World} (H : HOk M β h w) (m : Nat) : ∃ M', HOk M' β (freezeM m h) w ∧ Good M β w M' β w ∧ Still M' β (Go.Xa.mask m h) w := by
  obtain ⟨M', m1, m2, m3, m4, m5⟩ := H.stillAll (fun id => m.testBit id = false ∨ ∀ l wr, h[id]? ≠ some (.cells l wr))
  have old : ∀ (i : Nat) (x : Blk), (Go.Xa.freezeM m h)[i]? = some x → ∃ y, h[i]? = some y ∧ y.live = x.live ∧ (x = y ∧ (m.testBit i = false ∨ ∀ l wr, y ≠ .cells l wr) ∨ m.testBit i = true ∧ ∃ l wr, y = .cells l wr ∧ x = .cells l false) := fun i x hx => by
    rw [freezeM_get] at hx
    simp only [Option.map_eq_some_iff] at hx
    obtain ⟨y, hy, rfl⟩ := hx
    refine ⟨y, hy, ?_⟩
    cases hb : m.testBit i
    · simp
    · cases y <;> simp [Blk.live, Blk.shut]
  refine ⟨M', ⟨fun id x o hx ho => ?_, fun id x hx hl => ?_, fun id hid => H.ge id (by rwa [freezeM_len] at hid), fun i j x y o p hx hy lx ly ho hp hop => ?_, m2, H.lt⟩, ⟨m1, Ole.refl β, WExt.refl β w, fun _ h => .inl h, fun b hb => (m3 b hb).imp id .inl⟩, fun id l wr o hx ho => ?_⟩
  · obtain ⟨y, hy, hlv, hc⟩ := old id x hx
    have hB := H.blk id y o hy ho
    rcases hc with ⟨rfl, hc⟩ | ⟨hb, l, wr, rfl, rfl⟩
    · by_cases hl : x.live = true
      · refine hB.mono m1 (Ole.refl β) (m5 id x o hy hl ho (hc.imp_right fun hn l wr e => ?_))
        rw [hy] at e
        exact hn l wr (Option.some.inj e)
      · cases x <;> simp [Blk.live] at hl
        trivial
    · obtain ⟨cs, ety, fz, k1, k2, k3, k4, k5, k6, k7⟩ := hB
      refine ⟨cs, ety, fz, k1, k2, k3, k4, k5, fun i j e d a b => let ⟨c, v, hv, hr⟩ := k6 i j e d a b; ⟨c, v, hv, hr.mono m1 (Ole.refl β)⟩, ?_⟩
      have := m4 id l wr o hy ho (by rw [hb, hy]; simp)
      simpa using this
  · obtain ⟨y, hy, hlv, _⟩ := old id x hx
    exact H.has id y hy (hlv.trans hl)
  · obtain ⟨x', hx', l1, _⟩ := old i x hx
    obtain ⟨y', hy', l2, _⟩ := old j y hy
    exact H.inj i j x' y' o p hx' hy' (l1.trans lx) (l2.trans ly) ho hp hop
  · rw [mask_get] at hx
    simp only [Option.map_eq_some_iff] at hx
    obtain ⟨y, hy, hxe⟩ := hx
    cases hb : m.testBit id
    · rw [hb] at hxe; simp at hxe
    · rw [hb] at hxe
      simp only [if_true] at hxe
      subst hxe
      exact m4 id l wr o hy ho (by rw [hb, hy]; simp)

/-- What arguments name, read out. -/
theorem fins_ok {M M' : Mem} {β : Bt} {h : List Blk} {w : World} {m : Nat} {as as' : List D} {vs : Array Value} (H : HOk M β h w) (m1 : Mle M M') (hst : Still M' β (mask m h) w) (hv : RepL M β vs as) (has : fins (mask m h) as = some as') : RepL M' Bt.none vs as' := by
  have Hm := H.mask m
  have hblk : ∀ (i : Nat) x p, (mask m h)[i]? = some x → β i = some p → ∀ elems wr, x = .cells elems wr → ∃ cs ety fz, w.heap[p.b]? = some (.cells cs ety fz) ∧ (∀ e ∈ elems, e.length = p.sz) ∧
      (∀ (i j : Nat) e d, elems[i]? = some e → e[j]? = some d → d.cell = true ∧ ∃ v, cs[i * p.sz + j]? = some v ∧ Rep M' β v d) := by
    intro i x p hx hp elems' wr' he
    subst he
    obtain ⟨cs, ety, fz, k1, k2, k3, k4, k5, k6, k7⟩ := Hm.blk i _ p hx hp
    exact ⟨cs, ety, fz, k1, k5, fun i j e d a b => let ⟨c, v, hv, hr⟩ := k6 i j e d a b; ⟨c, v, hv, hr.mono m1 (Ole.refl β)⟩⟩
  have hconv := conv_ok' hblk hst
  obtain ⟨f1, f2⟩ := fins_get _ _ has
  exact ⟨by rw [hv.1, f1], fun i v d' hvi hdi => by
    obtain ⟨d0, g1, g2⟩ := f2 i d' hdi
    exact fin_ok hconv ((hv.2 i v d0 hvi g1).mono m1 (Ole.refl β)) g2⟩

/-- A call's contract, for whoever calls it with a value of a function. -/
theorem callVal_fn {P : Program} {W : Wd} {r : R} (hr : ROk P W r) {M : Mem} {β : Bt} {h h' : List Blk} {w : World} {ν : Nat} {g : FuncId} {a b args : List D} {vs : Array Value} {d : D} (H : HOk M β h w) (hs : Slot β h ν) (hG : GOk M W.G) (hv : RepL M β vs (a ++ args ++ b))
    (hc : callVal W r ν (.fn g a b) args h = some (d, h')) : (∃ fn, P.funcs[g]? = some fn ∧ (fn.name == "runtime.NumGoroutine") = false ∧ fn.body.isNone = false) ∧
      CallsIn (Wide none) 0 P g vs w fun e w' => ∃ v M' β', e = .returned v ∧ Good M β w M' β' w' ∧ (∀ i, i < h.length → i ≠ ν → β i = none → β' i = none) ∧ HOk M' β' h' w' ∧ Rep M' β' v d := by
  unfold callVal at hc
  simp only at hc
  have gen : genCall r g (a ++ args ++ b) h = some (d, h') → (∃ fn, P.funcs[g]? = some fn ∧ (fn.name == "runtime.NumGoroutine") = false ∧ fn.body.isNone = false) ∧
      CallsIn (Wide none) 0 P g vs w fun e w' => ∃ v M' β', e = .returned v ∧ Good M β w M' β' w' ∧ (∀ i, i < h.length → i ≠ ν → β i = none → β' i = none) ∧ HOk M' β' h' w' ∧ Rep M' β' v d := by
    intro hc
    unfold genCall at hc
    simp only [Option.map_eq_some_iff] at hc
    obtain ⟨p, hp, hd⟩ := hc
    obtain ⟨hfn, hall⟩ := hr.call g _ h p.1 p.2 hp
    refine ⟨hfn, (hall M β w vs hG H hv).mono fun e w' he => ?_⟩
    obtain ⟨v, M1, β1, rfl, g1, g0, g2, g3⟩ := he
    obtain ⟨M', β', q1, q0, q2, q3⟩ := clean_ok (G := W.G) H g1 g0 g2 g3
    rw [hd] at q2 q3
    exact ⟨v, M', β', rfl, q1, fun i hi _ hn => q0 i hi hn, q2, q3⟩
  split at hc
  · rename_i hfree
    simp only [Option.map_eq_some_iff] at hc
    obtain ⟨q, hq, hd⟩ := hc
    obtain ⟨hfn, hall⟩ := quiet_ok hr hq
    refine ⟨hfn, (hall M β h w vs ν hG H hs (hv.free hfree)).mono fun e w' he => ?_⟩
    obtain ⟨v, M', β', rfl, q1, q0, q2, q3⟩ := he
    rw [hd] at q2 q3
    exact ⟨v, M', β', rfl, q1, fun i _ hi hn => (q0 i hi).trans hn, q2, q3⟩
  · split at hc
    · exact gen hc
    split at hc
    case h_2 => exact gen hc
    rename_i as has
    split at hc
    case h_2 =>
      split at hc
      · cases hc
      · exact gen hc
    rename_i q hq'
    split at hc
    · -- lent
      rename_i hsc
      simp only [Option.some.injEq] at hc
      obtain ⟨M', H', G', hst⟩ := H.freezeM (idsM (a ++ args ++ b) h)
      obtain ⟨hfn, hall⟩ := quiet_ok hr hq'
      have hv' : RepL M' Bt.none vs as := fins_ok H G'.mle hst hv has
      have H0 : HOk M' Bt.none [] w := H'.empty
      refine ⟨hfn, (hall M' Bt.none [] w vs 0 (hG.mono G'.mle) H0 ⟨rfl, .inl rfl⟩ hv').mono fun e w' he => ?_⟩
      obtain ⟨v, M2, β2, rfl, q1, q0, q2, q3⟩ := he
      have hext : WExt Bt.none w w' := q1.ext
      have hn0 : ∀ b, M b ≠ none → M b ≠ none ∨ w.heap.size ≤ b := fun _ h => .inl h
      have hagree : ∀ b o, M b = some o → w'.heap[b]? = some o := fun b o hb => by
        have h1 := H.agree b o hb
        rw [hext.block b (Array.getElem?_eq_some_iff.1 h1).1 (none_has b)]; exact h1
      have HM : HOk M β h w' := H.later (Mle.refl M) hn0 hagree hext
      have HG : Good M β w M β w' := Good.quiet (Mle.refl M) hn0 hext
      cases q with
      | val x =>
        cases hc
        exact ⟨v, M, β, rfl, HG, fun _ _ _ h => h, HM, q3.scalar hsc⟩
      | new off len clip x =>
        cases x with
        | cells l wr =>
          cases wr with
          | false => simp [QR.scalar] at hsc
          | true =>
          cases hc
          have hq3 : Rep M2 β2 v (.own 0 off len clip) := q3
          have hb0 : (place 0 (.cells l true) [])[0]? = some (.cells l true) := by simp [place]
          cases hq3 with
          | own ho hcap hclip hn =>
          rename_i cap o
          obtain ⟨cs, ety, fz, k1, k2, k3, k4, k5, k6, k7⟩ := q2.blk 0 _ o hb0 ho
          have hob : w.heap.size ≤ o.b := (q1.new o.b ⟨0, o, ho, rfl⟩).resolve_left (none_has o.b)
          have hMo : M o.b = none := H.none_of_ge hob
          have hall2 := List.all_eq_true.1 hsc
          refine ⟨_, M, β.push ν o, rfl, ⟨Mle.refl M, Ole.push o hs.free, HG.ext, fun k hk => ?_, HG.mnew⟩, fun i _ hi hn => (Bt.push_ne β ν o i hi).trans hn, ?_, .own (Bt.push_self _ _ _) hcap hclip hn⟩
          · obtain ⟨i, p, hp, rfl⟩ := hk
            unfold Bt.push at hp
            split at hp
            · cases hp; exact .inr hob
            · exact .inl ⟨i, p, hp, rfl⟩
          · refine HM.push hs o _ (Array.getElem?_eq_some_iff.1 k1).1 (fun i y p _ _ hp => by have := H.lt i p hp; omega) ?_
            refine ⟨cs, ety, fz, k1, k2, k3, k4, k5, fun i j e d he hd => ?_, by simpa using hMo⟩
            obtain ⟨c, u, hu, hrep⟩ := k6 i j e d he hd
            exact ⟨c, u, hu, hrep.scalar0 (List.all_eq_true.1 (hall2 e (List.mem_of_getElem? he)) d (List.mem_of_getElem? hd))⟩
        | _ => simp [QR.scalar] at hsc
    · split at hc
      · split at hc
        · cases hc
        · exact gen hc
      · -- given
        simp only [Option.some.injEq] at hc
        obtain ⟨M', H', G', hst⟩ := H.freezeM (idsM (a ++ args ++ b) h)
        obtain ⟨hfn, hall⟩ := quiet_ok hr hq'
        have hv' : RepL M' Bt.none vs as := fins_ok H G'.mle hst hv has
        refine ⟨hfn, (hall M' β _ w vs ν (hG.mono G'.mle) H' (hs.freezeM _) hv').mono fun e w' he => ?_⟩
        obtain ⟨v, M2, β2, rfl, q1, q0, q2, q3⟩ := he
        rw [hc] at q2 q3
        exact ⟨v, M2, β2, rfl, G'.trans q1, fun i _ hi hn => (q0 i hi).trans hn, q2, q3⟩
end Go.Xa
