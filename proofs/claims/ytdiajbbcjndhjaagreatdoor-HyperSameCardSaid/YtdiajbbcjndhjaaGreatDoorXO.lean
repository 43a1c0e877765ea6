/- One operation of a region, calls and rounds among them. -/
import Derived.Test.YtdiajbbcjndhjaaGreatDoorXN
namespace Go.Xa
open Go.RowKit

theorem TmpsOk.put {M : Mem} {β : Bt} {a : Act} {ts : List D} {v : Value} {d : D} (h : TmpsOk M β a.tmps ts) (hv : Rep M β v d) (dst : Option Nat) (st : St) (he : st.ts = ts) : TmpsOk M β (a.put dst v).tmps (st.put dst d).ts := by
  subst he
  cases dst with
  | none => exact h
  | some t =>
    refine ⟨by simp [Act.put, St.put, h.1], fun i u e hu hd => ?_⟩
    simp only [Act.put, St.put] at hu hd
    by_cases hi : t = i
    · subst hi
      rw [List.getElem?_set] at hd
      simp only [if_true] at hd
      split at hd
      · cases hd
        rename_i hlt
        rw [Array.getElem?_setIfInBounds_self] at hu
        rw [if_pos (by rw [h.1]; exact hlt)] at hu
        cases hu
        exact hv
      · cases hd
    · rw [List.getElem?_set_ne hi] at hd
      rw [Array.getElem?_setIfInBounds_ne hi] at hu
      exact h.2 i u e hu hd
theorem put_defers (a : Act) (dst : Option Nat) (v : Value) : (a.put dst v).defers = a.defers := by cases dst <;> rfl
theorem put_h (st : St) (dst : Option Nat) (d : D) : (st.put dst d).h = st.h ∧ (st.put dst d).df = st.df ∧ (st.put dst d).rd = st.rd := by cases dst <;> exact ⟨rfl, rfl, rfl⟩

theorem DefsOk.mono {β β' : Bt} {h h' : List Blk} {df : List Nat} {ds : List Deferred} (hO : Ole β β') (H : DefsOk β h df ds) : DefsOk β' h' df ds :=
  ⟨H.len, fun i id d a b => let ⟨o, ho, e⟩ := H.each i id d a b; ⟨o, hO _ _ ho, e⟩⟩

/-- The state behind an operation. -/
theorem StOk.next {G : Nat → D} {M M' : Mem} {β β' : Bt} {st : St} {a : Act} {w w' : World} {h' : List Blk} {v : Value} {d : D} (hst : StOk G M β st a w) (hg : Good M β w M' β' w') (H' : HOk M' β' h' w') (hv : Rep M' β' v d) (dst : Option Nat) :
    StOk G M' β' ({ st with h := h' }.put dst d) (a.put dst v) w' := by
  obtain ⟨p1, p2, p3⟩ := put_h { st with h := h' } dst d
  refine ⟨by rw [p1]; exact H', TmpsOk.put (hst.t.mono hg.mle hg.ole) hv dst _ rfl, ?_, GOk.mono hg.mle hst.g⟩
  rw [put_defers, p2]
  exact hst.d.mono hg.ole

theorem wanted_ok {G : Nat → D} {M : Mem} {β : Bt} {st : St} {a : Act} {w : World} (hst : StOk G M β st a w) {ops : Array Oper} {o : Oper} {b : Bool} (h : wantedA ops.toList st.ts o = some b) : Region.wanted o (yielded ops a.tmps) = b := by
  unfold wantedA at h
  unfold Region.wanted
  cases hg : o.guard with
  | none => simp only [hg, Option.some.injEq] at h; subst h; rfl
  | some p =>
    obtain ⟨j, want⟩ := p
    simp only [hg, Array.getElem?_toList] at h
    simp only [yielded]
    cases hj : (ops[j]?).bind (·.dst) with
    | none => rw [hj] at h; simp at h
    | some t =>
      rw [hj] at h
      simp only at h
      simp only [Option.bind_some]
      cases hts : st.ts[t]? with
      | none => rw [hts] at h; simp at h
      | some d =>
        rw [hts] at h
        have hlt : t < a.tmps.size := by rw [hst.t.1]; exact (List.getElem?_eq_some_iff.1 hts).1
        have hv : a.tmps[t]? = some a.tmps[t] := by simp [hlt]
        have hrep := hst.t.2 t _ d hv hts
        rw [hv]
        generalize a.tmps[t] = v at *
        cases d <;> simp only at h <;> try (cases h; done)
        · cases hrep
          simp only [Option.some.injEq] at h
          subst h
          simp
        · cases hrep
          split at h
          · cases h; rfl
          · cases h

theorem run_callFunc {P : Program} {g : FuncId} {fn : Func} (hf : P.funcs[g]? = some fn) (hn : (fn.name == "runtime.NumGoroutine") = false) (hb : fn.body.isNone = false) (args : Array Value) (w : World) : (callFunc g args).run P w = .ok (.enter g args) w := by
  simp only [callFunc, Sem.run_bind, run_program, Result.andThen_ok, hf, hn, hb, Bool.false_eq_true, if_false, Sem.run_pure]

theorem putObj_ext {w : World} {r : Nat} {o : Obj} : (w.putObj r o).os = w.os ∧ (w.putObj r o).tape = w.tape ∧ (w.putObj r o).output = w.output := ⟨rfl, rfl, rfl⟩

/-- The record of a loop turns. -/
theorem HOk.putLoop {M : Mem} {β : Bt} {h : List Blk} {w : World} (H : HOk M β h w) {l : Nat} {st : LoopState} {p : Option Code} {ts : List D} {ps : List Nat} {as bd : Code} {df : Nat} {o : Own} (hx : h[l]? = some (.loop st p ts ps as bd df)) (ho : β l = some o)
    (st' : LoopState) (p' : Option Code) : ∃ rec : Loop, w.heap[o.b]? = some (.loop rec) ∧ rec.state = st ∧ rec.pending = p ∧ rec.params = ps.toArray ∧ rec.assign = as ∧ rec.body = bd ∧ TmpsOk M β rec.tmps ts ∧
      HOk M β (h.set l (.loop st' p' ts ps as bd df)) (w.putObj o.b (.loop { rec with state := st', pending := p' })) ∧ Good M β w M β (w.putObj o.b (.loop { rec with state := st', pending := p' })) := by
  obtain ⟨fn, tv, od, h1, h2, h3, h4⟩ := H.blk l _ o hx ho
  have hlt : o.b < w.heap.size := H.lt l o ho
  refine ⟨_, h2, rfl, rfl, rfl, rfl, rfl, h4, H.turn hx ho rfl h3 (by simp) (fun k hk => World.putObj_heap_other hk) ?_, Good.turn ho (by simp) (fun k hk => World.putObj_heap_other hk) rfl rfl rfl⟩
  exact ⟨fn, tv, od, h1, World.putObj_heap_same hlt, h3, h4⟩

theorem loopTs_ok {M : Mem} {β : Bt} : ∀ (ps : List Nat) (as : List D) (vs : List Value) (tv : Array Value) (ts : List D), TmpsOk M β tv ts → as.length = ps.length → RepL M β vs.toArray as →
    TmpsOk M β ((ps.zip vs).foldl (fun (t : Array Value) (q : Nat × Value) => t.setIfInBounds q.1 q.2) tv) (loopTs ts ps as)
  | [], as, vs, tv, ts, h, hl, hr => by
    have : as = [] := List.eq_nil_of_length_eq_zero (by simpa using hl)
    subst this
    simpa [loopTs] using h
  | p :: ps, [], _, _, _, _, hl, _ => by simp at hl
  | p :: ps, d :: as, [], _, _, _, _, hr => by have := hr.1; simp at this
  | p :: ps, d :: as, v :: vs, tv, ts, h, hl, hr => by
    have hv : Rep M β v d := hr.2 0 v d (by simp) (by simp)
    have h' := TmpsOk.put (a := { tmps := tv, defers := [] }) h hv (some p) { ts := ts, h := [], df := [], rd := false } rfl
    simp only [List.zip_cons_cons, List.foldl_cons, loopTs]
    exact loopTs_ok ps as vs _ _ h' (by simpa using hl) ⟨by have := hr.1; simp at this ⊢; omega, fun i v d hv hd => hr.2 (i + 1) v d (by simpa using hv) (by simpa using hd)⟩

theorem opStep_ok {P : Program} {W : Wd} {r : R} (hT : W.T.ok P) (hr : ROk P W r) {ops : Array Oper} {i ν : Nat} {o : Oper} (ho : ops[i]? = some o) {M : Mem} {β : Bt} {st st' : St} {a : Act} {w : World} {ro : Option Nat} {K : Act → World → Prop} {Q : Exit → Act → World → Prop}
    (hs : Slot β st.h ν) (hst : StOk W.G M β st a w) (h : opStep W r ν ops.toList o st = some st') (hK : ∀ M' β' a' w', Good M β w M' β' w' → (∀ i, i < st.h.length → i ≠ ν → β i = none → β' i = none) → StOk W.G M' β' st' a' w' → K a' w') : wpOpIn (Wide ro) 0 P ops Q i K a w := by
  unfold wpOpIn
  simp only [ho]
  unfold opStep at h
  split at h
  · rename_i hw
    rw [if_pos (wanted_ok hst hw)]
    refine ⟨fun _ _ => trivial, ?_⟩
    split at h
    case h_2 => cases h
    rename_i p hop
    obtain ⟨d, h'⟩ := p
    simp only at h
    split at h
    case isFalse => cases h
    rename_i hlen
    cases h
    have hρ : ∀ x, Rep M β (a.eval x) (ev W.G st.ts x) := ev_ok hst.g hst.t
    have hnd : ∀ c, o.op ≠ .defer c := fun c hc => by
      rw [hc] at hop
      simp [opVal, pureOp, memOp] at hop
    show o.uponIn (Wide ro) 0 P a K Q ((o.semAt ro a.eval).run P w)
    rw [Oper.semAt_eq ro a.eval o hnd]
    unfold opVal at hop
    split at hop
    · rename_i d' hp
      cases hop
      obtain ⟨v, h1, h2⟩ := pureOp_ok (P := P) hT hst.h hρ hp
      rw [h1, Oper.uponIn_value]
      exact hK M β _ w (Good.refl _ _ _) (fun _ _ _ hn => hn) (hst.next (Good.refl _ _ _) hst.h h2 o.dst)
    · split at hop
      · rename_i p hm
        cases hop
        obtain ⟨v, w', M', β', h1, h2, h3, h4, h5⟩ := memOp_ok (P := P) hT hst.h hs hρ hm
        rcases h1 with h1 | ⟨h1, rfl⟩
        · rw [h1, Oper.uponIn_value]
          exact hK M' β' _ w' h4 (fun i _ hi hn => (h5 i hi).trans hn) (hst.next h4 h3 h2 o.dst)
        · rw [h1, Oper.uponIn_skip]
          exact hK M' β' _ w' h4 (fun i _ hi hn => (h5 i hi).trans hn) (hst.next h4 h3 h2 o.dst)
      · split at hop
        · rename_i f args tys hopc
          have hargs := repL_map hρ args.toList
          have hf := hρ f
          generalize hfe : a.eval f = fv at *
          cases hdf : ev W.G st.ts f <;> rw [hdf] at hop hf <;> try (simp [callVal] at hop; done)
          · -- a function
            rename_i g fa fb
            cases hf with
            | fn s1 s2 r1 r2 =>
            rename_i first caps
            have hvs : RepL M β (first ++ (args.toList.map a.eval).toArray ++ caps) (fa ++ args.toList.map (ev W.G st.ts) ++ fb) := RepL.append (RepL.append ⟨s1, r1⟩ hargs) ⟨s2, r2⟩
            obtain ⟨⟨fn, q1, q2, q3⟩, hcall⟩ := callVal_fn hr hst.h hs hst.g hvs hop
            have hrun : (execOp a.eval o).run P w = .ok (.enter g (first ++ (args.toList.map a.eval).toArray ++ caps)) w := by
              have e1 : (args.toList.map a.eval).toArray = args.map a.eval := by apply Array.ext'; simp
              rw [e1]
              simp only [execOp, hopc, resolve, hfe, Deferred.ofValue, Sem.run_bind, Sem.run_pure, Result.andThen_ok, invoke, run_callFunc q1 q2 q3]
            rw [hrun, Oper.uponIn_enter]
            refine ⟨fun h => by simp at h, ?_⟩
            have hc2 : CallsIn (Wide ro) 0 P g (first ++ (args.toList.map a.eval).toArray ++ caps) w fun e w' => ∃ v M' β', e = .returned v ∧ Good M β w M' β' w' ∧ (∀ i, i < st.h.length → i ≠ ν → β i = none → β' i = none) ∧ HOk M' β' h' w' ∧ Rep M' β' v d := hcall
            refine hc2.mono fun e w' he => ?_
            obtain ⟨v, M', β', rfl, g1, g0, g2, g3⟩ := he
            exact hK M' β' _ w' g1 g0 (hst.next g1 g2 g3 o.dst)
          · -- a round
            rename_i l
            cases hf with
            | yield hl =>
            rename_i ob
            simp only [callVal] at hop
            unfold yieldRound at hop
            split at hop
            · rename_i pend tmps ps as bd df hblk
              split at hop
              · rename_i hlen
                split at hop
                · rename_i s1 hassign
                  split at hop
                  · rename_i p2 t2 ps2 as2 b2 d2 hblk1
                    split at hop
                    · rename_i e2 s2 hbody
                      obtain ⟨rc, l1, l2, l3, l4, l5, l6, l7, _, _⟩ := hst.h.putLoop hblk hl .ready pend
                      have hrun : (execOp a.eval o).run P w = .ok (.round ob.b rc.fn ((rc.params.zip ((args.toList.map a.eval).toArray)).foldl (fun tmps (t, a) => tmps.setIfInBounds t a) rc.tmps) rc.assign rc.body) w := by
                        have e1 : (args.toList.map a.eval).toArray = args.map a.eval := by apply Array.ext'; simp
                        have hsz : (args.map a.eval).size = rc.params.size := by
                          rw [l4]; simp at hlen ⊢; omega
                        rw [e1]
                        have hy := run_yield (P := P) l1 hsz
                        simp only [execOp, hopc, resolve, hfe, Deferred.ofValue, Sem.run_bind, Sem.run_pure, Result.andThen_ok, invoke, Array.empty_append, hy]
                      rw [hrun, Oper.uponIn_round]
                      refine ⟨fun h => by simp at h, ?_⟩
                      refine roundIn_of_wpIn trivial ?_
                      have hts : TmpsOk M β ((rc.params.zip ((args.toList.map a.eval).toArray)).foldl (fun tmps (t, a) => tmps.setIfInBounds t a) rc.tmps) (loopTs tmps ps (args.toList.map (ev W.G st.ts))) := by
                        have := loopTs_ok ps _ (args.toList.map a.eval) rc.tmps tmps l7 hlen hargs
                        rw [l4]
                        simpa using this
                      have hst0 : StOk W.G M β { ts := loopTs tmps ps (args.toList.map (ev W.G st.ts)), h := st.h, df := [], rd := true } { tmps := (rc.params.zip ((args.toList.map a.eval).toArray)).foldl (fun tmps (t, a) => tmps.setIfInBounds t a) rc.tmps, defers := [] } w :=
                        ⟨hst.h, hts, ⟨rfl, by simp⟩, hst.g⟩
                      obtain ⟨rd1, le1, hA⟩ := hr.run as _ _ s1 hassign
                      rw [l5]
                      refine wpIn_mono (hA (some ob.b) M β _ w (by simp) hst0) ?_
                      rintro e1 a1 w1 ⟨rfl, M1, β1, g1, kp1, st1⟩
                      show ∃ w₂, _ ∧ _
                      have hl1 := g1.ole _ _ hl
                      obtain ⟨rc1, m1, m2, m3, m4, m5, m6, m7, H1, G1⟩ := st1.h.putLoop hblk1 hl1 .busy p2
                      refine ⟨_, run_beginRound m1 m2, ?_⟩
                      have e1 : ({ rc1 with state := .busy, pending := p2 } : Loop) = { rc1 with state := .busy } := by rw [← m3]
                      rw [e1] at H1 G1
                      have st1' : StOk W.G M1 β1 { s1 with h := s1.h.set l (.loop .busy p2 t2 ps2 as2 b2 d2) } a1 (w1.putObj ob.b (.loop { rc1 with state := .busy })) := ⟨H1, st1.t, st1.d.mono (Ole.refl _), st1.g⟩
                      obtain ⟨rd2, le2, hB⟩ := hr.run bd _ _ s2 hbody
                      rw [l6]
                      refine wpIn_mono (hB (some ob.b) M1 β1 a1 _ (by intro hx; simp at hx; rw [rd1] at hx; simp at hx) st1') ?_
                      rintro e3 a2 w2 ⟨rfl, M2, β2, g2, kp2, st2⟩
                      have hl2 := g2.ole _ _ hl1
                      have hgg := (g1.trans G1).trans g2
                      split at hop
                      · rename_i _ _ t3 ps3 as3 b3 d3 hblk2
                        have fin : ∀ (ss : LoopState) (pp : Option Code) (bb : Bool), (∀ rc2 : Loop, w2.heap[ob.b]? = some (.loop rc2) → (Instr.endRound ob.b pp).run P w2 = .ok (.bool bb) (w2.putObj ob.b (.loop { rc2 with state := ss, pending := pp }))) →
                            d = .bool bb → h' = s2.h.set l (.loop ss pp t3 ps3 as3 b3 d3) → ∃ v w', (Instr.endRound ob.b pp).run P w2 = .ok v w' ∧ K (a.put o.dst v) w' := by
                          intro ss pp bb hrun hd hh
                          obtain ⟨rc2, n1, n2, n3, n4, n5, n6, n7, H2, G2⟩ := st2.h.putLoop hblk2 hl2 ss pp
                          refine ⟨_, _, hrun rc2 n1, ?_⟩
                          have hg3 := hgg.trans G2
                          subst hd; subst hh
                          exact hK M2 β2 _ _ hg3 (fun i hi _ hn => kp1.trans kp2 (by simpa using le1) i hi hn) (hst.next hg3 H2 .bool o.dst)
                        split at hop
                        · cases hop
                          exact fin .ready none true (fun rc2 hrc => by have := run_endRound (P := P) none hrc; simpa using this) rfl rfl
                        · cases hop
                          exact fin .done (some .ret) false (fun rc2 hrc => by have := run_endRound (P := P) (some .ret) hrc; simpa using this) rfl rfl
                        · rename_i id
                          cases hop
                          exact fin .done (some (.exit id)) false (fun rc2 hrc => by have := run_endRound (P := P) (some (.exit id)) hrc; simpa using this) rfl rfl
                        · cases hop
                      · cases hop
                    · cases hop
                  · cases hop
                · cases hop
              · cases hop
            · cases hop
        · cases hop
  · rename_i hw
    have := wanted_ok hst hw
    rw [this]
    simp only [Bool.false_eq_true, if_false]
    cases h
    refine ⟨fun _ _ => trivial, hK M β _ w (Good.refl _ _ _) (fun _ _ _ hn => hn) ?_⟩
    have := hst.next (h' := st.h) (Good.refl _ _ _) hst.h (v := undef) (d := .lit undef) .lit o.dst
    exact this
  · cases h
end Go.Xa
