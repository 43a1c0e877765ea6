/- A region whose order is drawn: as in the text's order. -/
import Derived.Test.YtdiajbbcjndhjaaGreatDoorXS
namespace Go.Xa
open Go.RowKit

theorem ready_iff {ops : Array Oper} {listed : Array Bool} {i : Nat} : i ∈ Region.ready .any ops listed ↔ ∃ o, ops[i]? = some o ∧ listed.getD i true = false ∧ ∀ j, (bindsM o).testBit j = true → listed.getD j false = true := by
  unfold Region.ready
  rw [List.mem_filter, List.mem_range]
  constructor
  · rintro ⟨h1, h2⟩
    simp only [Bool.and_eq_true, Bool.not_eq_true'] at h2
    obtain ⟨h2, h3⟩ := h2
    have ho : ops[i]? = some ops[i] := by simp [h1]
    refine ⟨ops[i], ho, h2, fun j hj => ?_⟩
    rw [ho] at h3
    simp only [Option.map_some, Option.getD_some] at h3
    obtain ⟨e, he, hb, rfl⟩ := bindsM_bit.1 hj
    rw [Array.all_eq_true'] at h3
    have := h3 e (by simpa using he)
    simpa [hb] using this
  · rintro ⟨o, ho, h2, h3⟩
    have h1 : i < ops.size := (Array.getElem?_eq_some_iff.1 ho).1
    refine ⟨h1, ?_⟩
    simp only [h2, ho, Bool.not_false, Bool.true_and, Option.map_some, Option.getD_some]
    rw [Array.all_eq_true']
    intro e he
    cases hb : Region.binds .any e
    · rfl
    · simp only [Bool.not_true, Bool.false_or]
      exact h3 e.on (bindsM_bit.2 ⟨e, by simpa using he, hb, rfl⟩)

theorem opStep_nu {W : Wd} {r : R} {ν ν' : Nat} {ops : List Oper} {o : Oper} {st : St} (hn : isNew o.op = false) : opStep W r ν ops o st = opStep W r ν' ops o st := by
  unfold opStep
  rw [opVal_nu (ν' := ν') hn]

theorem any_ok {P : Program} {W : Wd} (hT : W.T.ok P) {ops : Array Oper} {base : Nat} {L : List Ent} (hL : ∀ e ∈ L, e.ok ops.toList L) {ro : Option Nat} {Q : Exit → Act → World → Prop} {st' : St} : ∀ (n : Nat) (l : List Ent), l.length = n → ∀ {listed : Array Bool} {M : Mem} {β : Bt} {st : St} {a : Act} {w : World},
    listed.size = ops.size → (∀ e ∈ l, e ∈ L) → l.Pairwise (fun x y => x.i < y.i) → l.Pairwise (fun x y => y.an.testBit x.i = true ∨ x.free y = true) → (∀ k, k < ops.size → (listed.getD k true = false ↔ ∃ e ∈ l, e.i = k)) → (∀ e ∈ l, e.i < ops.size) →
    (∀ e ∈ L, listed.getD e.i false = true → ∀ j, e.an.testBit j = true → listed.getD j false = true) → (∀ e ∈ l, newAt ops.toList e.i = true → β (slot base ops.toList e.i) = none) → base ≤ st.h.length →
    StOk W.G M β st a w → Runs P W ops.toList base st l st' → (∀ M' β' a' w', Good M β w M' β' w' → Keep base β β' → StOk W.G M' β' st' a' w' → Q .normal a' w') → wpAnyIn (Wide ro) 0 P .any ops Q n listed a w
  | 0, l, hn, listed, M, β, st, a, w, hsz, hsub, hsort, hpair, hun, hlt, hcl, hfree, hbase, hst, hrun, hQ => by
    have : l = [] := List.eq_nil_of_length_eq_zero hn
    subst this
    cases hrun
    refine ⟨List.eq_nil_iff_forall_not_mem.2 fun i hi => ?_, hQ M β a w (Good.refl _ _ _) (fun _ _ h => h) hst⟩
    obtain ⟨o, ho, h2, _⟩ := ready_iff.1 hi
    obtain ⟨e, he, _⟩ := (hun i (Array.getElem?_eq_some_iff.1 ho).1).1 h2
    cases he
  | n + 1, l, hn, listed, M, β, st, a, w, hsz, hsub, hsort, hpair, hun, hlt, hcl, hfree, hbase, hst, hrun, hQ => by
    have getD2 : ∀ j, j < ops.size → listed.getD j true = listed.getD j false := fun j hj => by
      simp only [Array.getD_eq_getD_getElem?]
      have : listed[j]? = some (listed[j]'(by omega)) := by simp [hsz, hj]
      rw [this]; rfl
    refine ⟨fun hre => ?_, fun i hi => ?_⟩
    · exfalso
      cases l with
      | nil => cases hn
      | cons e l =>
        have hei := hlt e (by simp)
        have : e.i ∈ Region.ready .any ops listed := by
          refine ready_iff.2 ⟨ops[e.i], by simp [hei], (hun e.i hei).2 ⟨e, by simp, rfl⟩, fun j hj => ?_⟩
          have hj' := (hL e (hsub e (by simp))).back ops[e.i] (by simp [hei]) j hj
          rw [← getD2 j (by omega)]
          cases hg : listed.getD j true with
          | true => rfl
          | false =>
            obtain ⟨x, hx, hxi⟩ := (hun j (by omega)).1 hg
            rcases List.mem_cons.1 hx with rfl | hx
            · omega
            · have := (List.pairwise_cons.1 hsort).1 x hx
              omega
        rw [hre] at this
        cases this
    · obtain ⟨o, ho, h2, h3⟩ := ready_iff.1 hi
      have hio : i < ops.size := (Array.getElem?_eq_some_iff.1 ho).1
      obtain ⟨e, he, hei⟩ := (hun i hio).1 h2
      obtain ⟨xs, ys, rfl⟩ := List.append_of_mem he
      have hanc : ∀ j, e.an.testBit j = true → listed.getD j false = true := fun j hj => by
        rcases (hL e (hsub e he)).anc o (by rw [hei]; simpa using ho) j hj with g | ⟨x, hx, g1, g2⟩
        · exact h3 j g
        · exact hcl x hx (h3 _ g1) j g2
      have hfr : ∀ x ∈ xs, x.free e = true := fun x hx => by
        rcases (List.pairwise_append.1 hpair).2.2 x hx e (by simp) with g | g
        · exfalso
          have h4 := hanc _ g
          have hxi := hlt x (by simp [hx])
          have h5 := (hun x.i hxi).2 ⟨x, by simp [hx], rfl⟩
          rw [getD2 _ hxi, h4] at h5
          cases h5
        · exact g
      obtain ⟨hdead, o', s1, ⟨e1, e2, e3, e4⟩, ⟨r, hr0, hs1⟩, hrest⟩ := Runs.bubble xs st hfr hrun
      have hr := drawn_rok hr0
      have ho' : ops.toList[i]? = some o := by simpa using ho
      rw [hei] at e1 hs1
      rw [ho'] at e1
      cases e1
      obtain ⟨hop, hlen⟩ := dStep_op hs1
      have hmem : ∀ x, x ∈ xs ++ ys → x ∈ xs ++ e :: ys := fun x hx => by
        simp at hx ⊢; rcases hx with h | h <;> simp [h]
      have hsort' : (xs ++ ys).Pairwise (fun x y => x.i < y.i) := hsort.sublist (by simp)
      have hpair' : (xs ++ ys).Pairwise (fun x y => y.an.testBit x.i = true ∨ x.free y = true) := hpair.sublist (by simp)
      have hne : ∀ x ∈ xs ++ ys, x.i ≠ i := fun x hx => by
        rcases List.mem_append.1 hx with hx | hx
        · have := (List.pairwise_append.1 hsort).2.2 x hx e (by simp); omega
        · have := (List.pairwise_cons.1 (List.pairwise_append.1 hsort).2.1).1 x hx; omega
      have step : ∀ ν, Slot β st.h ν → base ≤ ν → opStep W r.drawn ν ops.toList o st = some s1 → (∀ x ∈ xs ++ ys, newAt ops.toList x.i = true → slot base ops.toList x.i ≠ ν) →
          wpOpIn (Wide ro) 0 P ops Q i (wpAnyIn (Wide ro) 0 P .any ops Q n (listed.setIfInBounds i true)) a w := by
        intro ν hsl hbν hopν hνne
        refine opStep_ok hT hr ho hsl hst hopν fun M1 β1 a1 w1 g1 k1 st1 => ?_
        have hgetD : ∀ (j : Nat) (b : Bool), (listed.setIfInBounds i true).getD j b = if j = i then true else listed.getD j b := fun j b => by
          simp only [Array.getD_eq_getD_getElem?, Array.getElem?_setIfInBounds]
          by_cases hij : i = j
          · subst hij; simp [hsz, hio]
          · rw [if_neg hij, if_neg fun h => hij h.symm]
        refine any_ok hT hL n (xs ++ ys) (by simp at hn ⊢; omega) (by simpa using hsz) (fun x hx => hsub x (hmem x hx)) hsort' hpair' (fun k hk => ?_) (fun x hx => hlt x (hmem x hx)) (fun x hx hlx j hj => ?_) (fun x hx hnx => ?_) (by rw [hlen]; exact hbase) st1 hrest fun M2 β2 a2 w2 g2 k2 st2 => hQ M2 β2 a2 w2 (g1.trans g2) ?_ st2
        · rw [hgetD]
          constructor
          · intro hk2
            split at hk2
            · cases hk2
            · obtain ⟨x, hx, hxk⟩ := (hun k hk).1 hk2
              refine ⟨x, ?_, hxk⟩
              rcases List.mem_append.1 hx with hx | hx
              · simp [hx]
              · rcases List.mem_cons.1 hx with rfl | hx
                · omega
                · simp [hx]
          · rintro ⟨x, hx, rfl⟩
            rw [if_neg (hne x hx)]
            exact (hun _ hk).2 ⟨x, hmem x hx, rfl⟩
        · rw [hgetD] at hlx ⊢
          split
          · rfl
          · split at hlx
            · rename_i hxi
              -- the one just listed
              rcases (hL x hx).anc o (by rw [hxi]; exact ho') j hj with g | ⟨y, hy, g1, g2⟩
              · exact h3 j g
              · exact hcl y hy (h3 _ g1) j g2
            · exact hcl x hx hlx j hj
        · have hb := hfree x (hmem x hx) hnx
          refine k1 _ ?_ (hνne x hx hnx) hb
          have hmem2 : x ∈ e :: (xs ++ ys) := List.mem_cons_of_mem _ hx
          exact (List.getElem?_eq_some_iff.1 (hdead x hmem2 hnx)).1
        · intro j hj hjn
          exact k2 j hj (k1 j (by omega) (by omega) hjn)
      cases hnw : isNew o.op with
      | true =>
        have hna : newAt ops.toList i = true := by simp only [newAt, ho', hnw]
        refine step (slot base ops.toList i) ⟨?_, .inr ?_⟩ (by unfold slot; omega) hop fun x hx hnx => slot_ne hnx hna (hne x hx)
        · have := hfree e he (by rw [hei]; exact hna); rwa [hei] at this
        · have := hdead e (by simp) (by rw [hei]; exact hna); rwa [hei] at this
      | false =>
        refine step st.h.length hst.h.slot hbase ?_ fun x hx hnx => ?_
        · rw [opStep_nu (ν' := slot base ops.toList i) hnw]; exact hop
        · have hmem2 : x ∈ e :: (xs ++ ys) := List.mem_cons_of_mem _ hx
          have := (List.getElem?_eq_some_iff.1 (hdead x hmem2 hnx)).1
          omega

theorem HOk.deads {M : Mem} {β : Bt} {h : List Blk} {w : World} (H : HOk M β h w) (n : Nat) : HOk M β (h ++ List.replicate n .dead) w := by
  have old : ∀ (i : Nat) (x : Blk), (h ++ List.replicate n .dead)[i]? = some x → h[i]? = some x ∨ x = .dead := fun i x hx => by
    by_cases hi : i < h.length
    · rw [List.getElem?_append_left hi] at hx; exact .inl hx
    · rw [List.getElem?_append_right (by omega), List.getElem?_replicate] at hx
      split at hx
      · cases hx; exact .inr rfl
      · cases hx
  refine ⟨fun id x o hx ho => ?_, fun id x hx hl => ?_, fun id hid => H.ge id (by simp at hid; omega), fun i j x y o p hx hy lx ly ho hp hop => ?_, H.agree, H.lt⟩
  · rcases old id x hx with h1 | rfl
    · exact H.blk id x o h1 ho
    · trivial
  · rcases old id x hx with h1 | rfl
    · exact H.has id x h1 hl
    · cases hl
  · rcases old i x hx with h1 | rfl
    · rcases old j y hy with h2 | rfl
      · exact H.inj i j x y o p h1 h2 lx ly ho hp hop
      · cases ly
    · cases lx

theorem drawnG_ok {P : Program} {W : Wd} (hT : W.T.ok P) (hP : P.follows .mixedOrders = true) {σ : Type} {step : Nat → Oper → St → σ → Option (St × σ)} {G : σ → Prop} {id : Nat} {ops : Array Oper} (hstep : StepR P W ops.toList step G) {ro : Option Nat} {st st' : St} {s s' : σ} (h : drawnG W step ops.toList st s = some (st', s')) (hg : G s') {M : Mem} {β : Bt} {a : Act} {w : World} (hst : StOk W.G M β st a w) :
    (Code.region id ops true).wpIn (Wide ro) 0 P (fun e' a' w' => e' = .normal ∧ ∃ M' β', Good M β w M' β' w' ∧ Keep st.h.length β β' ∧ StOk W.G M' β' st' a' w') a w := by
  refine wpIn_region_any hP ?_
  unfold drawnG at h
  have h0 : slot st.h.length ops.toList 0 = st.h.length := by simp [slot]
  rw [← h0] at h
  obtain ⟨l, l1, l2, l3, l4, _⟩ := dRun_runs (base := st.h.length) hstep ops.toList 0 [] { st with h := st.h ++ List.replicate (ops.toList.countP fun o => isNew o.op) .dead } s st' s' rfl h hg (by simp only [slot, List.take_length, List.length_append, List.length_replicate]) fun id h1 h2 => by
    rw [h0] at h1
    simp only [List.length_append, List.length_replicate] at h2
    show (st.h ++ List.replicate (ops.toList.countP fun o => isNew o.op) .dead)[id]? = some .dead
    rw [List.getElem?_append_right h1, List.getElem?_replicate, if_pos (by omega)]
  have hlen : l.length = ops.size := by
    have := congrArg List.length l1
    simpa using this
  have hidx : ∀ k, k < ops.size ↔ ∃ e ∈ l, e.i = k := fun k => by
    have : k ∈ l.map (·.i) ↔ k ∈ List.range' 0 ops.toList.length := by rw [l1]
    rw [List.mem_map, List.mem_range'_1] at this
    rw [this]; simp
  have hsort : l.Pairwise (fun x y => x.i < y.i) := by
    have : (l.map (·.i)).Pairwise (· < ·) := by rw [l1]; exact List.pairwise_lt_range'
    rwa [List.pairwise_map] at this
  have hgetF : ∀ (k : Nat) (b : Bool), k < ops.size → (Array.replicate ops.size false).getD k b = false := fun k b hk => by
    simp only [Array.getD_eq_getD_getElem?, Array.getElem?_replicate, hk, if_true, Option.getD_some]
  have hst1 : StOk W.G M β { st with h := st.h ++ List.replicate (ops.toList.countP fun o => isNew o.op) .dead } a { w with drawn := w.drawn + 1 } :=
    ⟨(hst.h.deads _).drew, hst.t, hst.d.mono (Ole.refl _), hst.g⟩
  refine any_ok hT (L := l) (base := st.h.length) (by simpa using l3) ops.size l hlen (by simp) (fun _ h => h) hsort l4 (fun k hk => ?_) (fun e he => (hidx _).2 ⟨e, he, rfl⟩) (fun e he hle => ?_) (fun e he hn => ?_) (by simp) hst1 l2 fun M' β' a' w' g k s => ⟨rfl, M', β', (Good.drew M β w).trans g, k, s⟩
  · exact ⟨fun _ => (hidx k).1 hk, fun _ => hgetF k _ hk⟩
  · rw [hgetF _ _ ((hidx _).2 ⟨e, he, rfl⟩)] at hle; cases hle
  · exact hst.h.ge _ (by unfold slot; omega)
theorem drawnG_len {P : Program} {W : Wd} {σ : Type} {step : Nat → Oper → St → σ → Option (St × σ)} {G : σ → Prop} {ops : List Oper} (hstep : StepR P W ops step G) {st st' : St} {s s' : σ} (h : drawnG W step ops st s = some (st', s')) (hg : G s') : G s ∧ st.h.length ≤ st'.h.length ∧ st'.rd = st.rd := by
  obtain ⟨a, b, c⟩ := dRun_back hstep _ _ _ _ _ _ _ _ h hg
  simp at b
  exact ⟨a, by omega, c⟩
theorem exec_stepR {P : Program} {W : Wd} {r : R} (hr : ROk P W r) (ops : List Oper) : StepR P W ops (fun ν o st (s : Unit) => match dStep W r ops ν o st with | some st' => some (st', s) | none => none) (fun _ => True) := by
  intro ν o st s st' s' h _
  simp only at h
  split at h
  · rename_i st1 h1
    cases h
    exact ⟨trivial, r, hr, h1⟩
  · cases h
theorem drawn_some {W : Wd} {r : R} {ops : List Oper} {st st' : St} (h : drawn W r ops st = some st') : drawnG W (fun ν o st (s : Unit) => match dStep W r ops ν o st with | some st' => some (st', s) | none => none) ops st () = some (st', ()) := by
  unfold drawn at h
  split at h
  · rename_i p hp; cases h; exact hp
  · cases h
theorem drawn_ok {P : Program} {W : Wd} {r : R} (hT : W.T.ok P) (hP : P.follows .mixedOrders = true) (hr : ROk P W r) {id : Nat} {ops : Array Oper} {ro : Option Nat} {st st' : St} (h : drawn W r ops.toList st = some st') {M : Mem} {β : Bt} {a : Act} {w : World} (hst : StOk W.G M β st a w) :
    (Code.region id ops true).wpIn (Wide ro) 0 P (fun e' a' w' => e' = .normal ∧ ∃ M' β', Good M β w M' β' w' ∧ Keep st.h.length β β' ∧ StOk W.G M' β' st' a' w') a w :=
  drawnG_ok hT hP (exec_stepR hr ops.toList) (drawn_some h) trivial hst
theorem drawn_len {P : Program} {W : Wd} {r : R} (hr : ROk P W r) {ops : List Oper} {st st' : St} (h : drawn W r ops st = some st') : st.h.length ≤ st'.h.length ∧ st'.rd = st.rd := (drawnG_len (exec_stepR hr ops) (drawn_some h) trivial).2
end Go.Xa
