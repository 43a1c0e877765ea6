/- Ranges over functions; the executor is the machine. -/
import Derived.Test.YtdiajbbcjndhjaaGreatDoorXW
namespace Go.Xa
open Go.RowKit

theorem rangeRun_ok {P : Program} {W : Wd} {r : R} (hr : ROk P W r) (g : Operand) (ps : Array Tmp) (as bd : Code) (st : St) (e : Exit) (st' : St) (h : rangeRun r (ev W.G st.ts g) ps as bd st = some (e, st')) : st'.rd = st.rd ∧ st.h.length ≤ st'.h.length ∧ ∀ ro M β a w, (st.rd = false → ro = none) → StOk W.G M β st a w →
      (Code.rangeFunc g ps as bd).wpIn (Wide ro) 0 P (fun e' a' w' => e' = e ∧ ∃ M' β', Good M β w M' β' w' ∧ Keep st.h.length β β' ∧ StOk W.G M' β' st' a' w') a w := by
  unfold rangeRun at h
  split at h
  · cases h
  rename_i hrd
  have hrd : st.rd = false := by simpa using hrd
  split at h
  case h_2 => cases h
  rename_i f fa fb hg
  split at h
  case h_2 => cases h
  rename_i d h2 hcall
  split at h
  · cases h
  rename_i hlen
  split at h
  case h_1 => cases h
  case h_3 => cases h
  rename_i s p t2 ps2 as2 b2 d2 hnb hx
  simp only at h
  have hs2 : ∃ e2, (match p with | none => some (Exit.normal, ({ st with h := h2.set (st.h.length + 1) (.loop .exhausted p t2 ps2 as2 b2 d2), df := st.h.length :: st.df } : St)) | some c => r.run c { st with h := h2.set (st.h.length + 1) (.loop .exhausted p t2 ps2 as2 b2 d2), df := st.h.length :: st.df }) = some (e2, st') := ⟨e, h⟩
  have hend : st'.rd = st.rd ∧ st.h.length ≤ st'.h.length := by
    cases p with
    | none => cases h; exact ⟨rfl, by simp; omega⟩
    | some c =>
      obtain ⟨a1, a2, _⟩ := hr.run c _ _ st' h
      exact ⟨a1, by simp at a2; omega⟩
  refine ⟨hend.1, hend.2, fun ro M β a w hro hst => ?_⟩
  obtain rfl := hro hrd
  refine wpIn_rangeFunc fun fn _ => ?_
  have hf := ev_ok hst.g hst.t g
  rw [hg] at hf
  generalize hfe : a.eval g = fv at hf
  cases hf with
  | fn s1 s2 r1 r2 =>
  rename_i first caps
  obtain ⟨⟨fnv, q1, q2, q3⟩, hc⟩ := hr.call f _ _ d h2 hcall
  let o1 : Own := ⟨w.heap.size, 0, 0⟩
  let o2 : Own := ⟨w.heap.size + 1, 0, 0⟩
  let rec0 : Loop := { state := .ready, pending := none, fn, tmps := a.tmps, params := ps, assign := as, body := bd, defers := w.heap.size }
  let w1 := (w.alloc (.deferred (some []))).alloc (.loop rec0)
  let β1 := β.push st.h.length o1
  let β2 := β1.push (st.h.length + 1) o2
  have Hs1 := hst.h.slot
  have hM1 : M w.heap.size = none := hst.h.none_of_ge (Nat.le_refl _)
  have hM2 : M (w.heap.size + 1) = none := hst.h.none_of_ge (by omega)
  have H1 : HOk M β1 (st.h ++ [.dfr]) (w.alloc (.deferred (some []))) := by
    have := hst.h.alloc Hs1 (.deferred (some [])) o1 rfl .dfr ⟨World.alloc_heap_new _ _, hM1⟩
    rwa [show place st.h.length .dfr st.h = st.h ++ [.dfr] by simp [place]] at this
  have G1 : Good M β w M β1 (w.alloc (.deferred (some []))) := Good.alloc _ o1 rfl Hs1.free
  have Hs2 : Slot β1 (st.h ++ [.dfr]) (st.h.length + 1) := by have := H1.slot; simpa using this
  have hβ1 : β1 st.h.length = some o1 := Bt.push_self _ _ _
  have hO : Ole β1 β2 := Ole.push o2 Hs2.free
  have H2 : HOk M β2 (st.h ++ [.dfr, .loop .ready none st.ts ps.toList as bd st.h.length]) w1 := by
    have := H1.alloc Hs2 (.loop rec0) o2 (by simp [o2]) (.loop .ready none st.ts ps.toList as bd st.h.length) ⟨fn, a.tmps, o1, hO _ _ hβ1, by
      have := World.alloc_heap_new (w.alloc (.deferred (some []))) (.loop rec0)
      rw [World.size_alloc] at this
      simpa [o2, rec0, o1] using this, hM2, hst.t.mono (Mle.refl M) ((Ole.push o1 Hs1.free).trans hO)⟩
    rwa [show place (st.h.length + 1) (.loop .ready none st.ts ps.toList as bd st.h.length) (st.h ++ [.dfr]) = st.h ++ [.dfr, .loop .ready none st.ts ps.toList as bd st.h.length] by simp [place]] at this
  have G2 : Good M β w M β2 w1 := G1.trans (Good.alloc _ o2 (by simp [o2]) Hs2.free)
  have K2 : Keep st.h.length β β2 := fun i hi hn => by
    show β2 i = none
    simp only [β2, β1]
    rw [Bt.push_ne _ _ _ _ (by omega), Bt.push_ne _ _ _ _ (by omega)]
    exact hn
  have hβ2 : β2 (st.h.length + 1) = some o2 := Bt.push_self _ _ _
  have hyield : RepL M β2 #[.func (.yield (w.heap.size + 1)) #[] #[]] [.yield (st.h.length + 1)] := ⟨rfl, fun i v d hv hd => by
    cases i with
    | zero => simp at hv hd; subst hv; subst hd; exact .yield (o := o2) hβ2
    | succ i => simp at hd⟩
  have hvs : RepL M β2 (first ++ #[.func (.yield (w.heap.size + 1)) #[] #[]] ++ caps) (fa ++ [.yield (st.h.length + 1)] ++ fb) := by
    have hOO := G2.ole
    exact RepL.append (RepL.append ⟨s1, fun i v d hv hd => (r1 i v d hv hd).mono (Mle.refl M) hOO⟩ hyield) ⟨s2, fun i v d hv hd => (r2 i v d hv hd).mono (Mle.refl M) hOO⟩
  refine ⟨w.heap.size + 1, [{ target := .collected w.heap.size, args := #[] }], w1, { target := .fn (.func f) caps, args := first ++ #[.func (.yield (w.heap.size + 1)) #[] #[]] }, w1, f, first ++ #[.func (.yield (w.heap.size + 1)) #[] #[]] ++ caps, w1, run_enterLoop_outer fn a.tmps ps as bd, ?_, fun _ _ => trivial, ?_, fun h => by simp at h, ?_⟩
  · simp only [resolve, hfe, Deferred.ofValue]
    simp [Act.eval]
  · simp only [invoke, run_callFunc q1 q2 q3]
  · refine (hc M β2 w1 _ hst.g H2 hvs).mono fun e' w3 he => ?_
    obtain ⟨v, M3, β3, rfl, g3, k3, H3, _⟩ := he
    have hβ3 := g3.ole _ _ hβ2
    obtain ⟨rc, l1, l2, l3, l4, l5, l6, l7, H4, G4⟩ := H3.putLoop hx hβ3 .exhausted p
    have hnb2 : rc.state ≠ .busy := by rw [l2]; exact hnb
    have erec : ({ rc with state := .exhausted, pending := p } : Loop) = { rc with state := .exhausted } := by rw [← l3]
    rw [erec] at H4 G4
    refine ⟨rc.pending, _, run_endLoop l1 hnb2, ?_⟩
    have gg := (G2.trans g3).trans G4
    have kk : Keep st.h.length β β3 := K2.trans k3 (by simp)
    have s2k : StOk W.G M3 β3 { st with h := h2.set (st.h.length + 1) (.loop .exhausted p t2 ps2 as2 b2 d2), df := st.h.length :: st.df } { a with defers := [{ target := .collected w.heap.size, args := #[] }] ++ a.defers } (w3.putObj (w.heap.size + 1) (.loop { rc with state := .exhausted })) := by
      refine ⟨H4, hst.t.mono gg.mle gg.ole, ⟨by simp [hst.d.len], fun i id d h1 h2 => ?_⟩, hst.g.mono gg.mle⟩
      cases i with
      | zero =>
        simp at h1 h2
        subst h1; subst h2
        exact ⟨o1, g3.ole _ _ (hO _ _ hβ1), rfl⟩
      | succ i =>
        obtain ⟨o, ho, hd⟩ := hst.d.each i id d (by simpa using h1) (by simpa using h2)
        exact ⟨o, gg.ole _ _ ho, hd⟩
    split
    · rename_i hp
      rw [l3] at hp
      subst hp
      simp only at h
      cases h
      exact ⟨rfl, M3, β3, gg, kk, s2k⟩
    · rename_i c hp
      rw [l3] at hp
      subst hp
      simp only at h
      exact RunOk.chain (s0 := st) hr h (by simp; omega) (fun _ => rfl) gg kk s2k

theorem next_ok {P : Program} {W : Wd} {r : R} (hT : W.T.ok P) (hP : P.follows .mixedOrders = true) (hF : ∀ f fn, W.F f = some fn → P.funcs[f]? = some fn) (hr : ROk P W r) (k : Nat) : ROk P W (next W k r) :=
  ⟨nextRun_ok hT hP hr k (rangeRun_ok hr), nextCall_ok hT hF hr, hr.quiet⟩
theorem bot_ok (P : Program) (W : Wd) : ROk P W R.bot := ⟨fun _ _ _ _ h => by simp [R.bot] at h, fun _ _ _ _ _ h => by simp [R.bot] at h, fun _ _ _ h => by simp [R.bot] at h⟩
theorem over_ok {P : Program} {W : Wd} {r0 r : R} (h0 : ROk P W r0) (hr : ROk P W r) : ROk P W (r0.over r) := by
  refine ⟨hr.run, fun f args h d h' hc => ?_, h0.quiet⟩
  simp only [R.over] at hc
  split at hc
  · rename_i p hp
    cases hc
    exact h0.call f args h d h' hp
  · exact hr.call f args h d h' hc
/-- THE EXECUTOR IS RIGHT. -/
theorem exec_ok {P : Program} {W : Wd} {r0 : R} (hT : W.T.ok P) (hP : P.follows .mixedOrders = true) (hF : ∀ f fn, W.F f = some fn → P.funcs[f]? = some fn) (h0 : ROk P W r0) : ∀ n, ROk P W (exec W r0 n)
  | 0 => h0
  | n + 1 => over_ok h0 (next_ok hT hP hF (exec_ok hT hP hF h0 n) n)
end Go.Xa
