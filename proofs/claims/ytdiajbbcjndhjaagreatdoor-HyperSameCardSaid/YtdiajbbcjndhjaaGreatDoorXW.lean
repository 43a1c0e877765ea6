/- The executor's calls are the machine's. -/
import Derived.Test.YtdiajbbcjndhjaaGreatDoorXV
namespace Go.Xa
open Go.RowKit

theorem killAll_ok {P : Program} {fn : Func} {R : Ending → World → Prop} {tmps : Array Value} : ∀ (df : List Nat) (h h' : List Blk) (ds : List Deferred) {M : Mem} {β : Bt} {w : World}, killAll df h = some h' → HOk M β h w → DefsOk β h df ds →
    (∀ w', Good M β w M β w' → HOk M β h' w' → ∃ v, (results fn tmps).run P w' = .ok v w' ∧ R (.returned v) w') → LeavesInM (Wide none) 0 P fn tmps R ds .returning w
  | [], h, h', ds, M, β, w, hk, H, hd, hR => by
    have : ds = [] := List.eq_nil_of_length_eq_zero hd.len
    subst this
    cases hk
    exact hR w (Good.refl _ _ _) H
  | id :: df, h, h', ds, M, β, w, hk, H, hd, hR => by
    cases ds with
    | nil => have := hd.len; simp at this
    | cons d ds =>
      simp only [killAll] at hk
      split at hk
      · rename_i hx
        obtain ⟨o, ho, he⟩ := hd.each 0 id d rfl rfl
        obtain ⟨hb, hM⟩ := H.blk id .dfr o hx ho
        have hlt := H.lt id o ho
        have hh : (Instr.takeDeferred o.b).run P w = .ok [] (w.putObj o.b (.deferred none)) := run_takeDeferred hb
        have G := Good.turn (M := M) (w := w) (w' := w.putObj o.b (.deferred none)) ho (by simp) (fun k hk => World.putObj_heap_other hk) rfl rfl rfl
        have H' : HOk M β (h.set id .dead) (w.putObj o.b (.deferred none)) := H.turn hx ho rfl hM (by simp) (fun k hk => World.putObj_heap_other hk) trivial
        refine ⟨by simp, .inl ⟨o.b, _, by rw [he], hh, killAll_ok df _ h' ds hk H' ⟨by have := hd.len; simpa using this, fun i id' d' h1 h2 => hd.each (i + 1) id' d' (by simpa using h1) (by simpa using h2)⟩ fun w' g H2 => hR w' (G.trans g) H2⟩⟩
      · cases hk

theorem loadVar_ok {P : Program} {T : Tbl} (hT : T.ok P) {M : Mem} {β : Bt} {h : List Blk} {w : World} {t : TypeId} {p : Value} {x d : D} (H : HOk M β h w) (hp : Rep M β p x) (ha : aLoad T t x h = some d) :
    ∃ v ad, p = .pointer (some ad) ∧ (loadVar t ad).run P w = .ok v w ∧ Rep M β v d := by
  obtain ⟨v, h1, h2⟩ := load_ok (P := P) hT H hp ha
  have : ∃ ad, p = .pointer (some ad) := by
    unfold aLoad at ha
    split at ha
    · rename_i hv
      cases x <;> simp only [aView] at hv <;> try (cases hv; done)
      · cases hp; exact ⟨_, rfl⟩
      · cases hp; exact ⟨_, rfl⟩
    · cases ha
  obtain ⟨ad, rfl⟩ := this
  refine ⟨v, ad, rfl, ?_, h2⟩
  simpa [Instr.loadAt, Instr.sureAddr] using h1

theorem results_ok {P : Program} {W : Wd} (hT : W.T.ok P) {M : Mem} {β : Bt} {h : List Blk} {w : World} {ts : List D} {tmps : Array Value} (H : HOk M β h w) (ht : TmpsOk M β tmps ts) : ∀ (rs : List ResultVar) (ds : List D), aResults W ts h rs = some ds →
    ∃ vs : List Value, (rs.mapM (m := Sem) fun
      | .tmp t => pure (tmps.getD t undef)
      | .cell a t => do loadVar t (← asAddr (tmps.getD a undef))).run P w = .ok vs w ∧ vs.length = ds.length ∧ ∀ (i : Nat) v d, vs[i]? = some v → ds[i]? = some d → Rep M β v d
  | [], ds, hd => by
    cases hd
    exact ⟨[], by simp, rfl, by simp⟩
  | r :: rs, ds, hd => by
    simp only [aResults] at hd
    split at hd
    · rename_i d ds' h1 h2
      cases hd
      obtain ⟨vs, k1, k2, k3⟩ := results_ok hT H ht rs ds' h2
      have hev : ∀ t, Rep M β (tmps.getD t undef) (ts.getD t (.lit undef)) := fun t => by
        simp only [Array.getD_eq_getD_getElem?, List.getD]
        by_cases hlt : t < ts.length
        · have h' : t < tmps.size := by rw [ht.1]; exact hlt
          exact ht.2 t _ _ (by simp [h']) (by simp [hlt])
        · have h' : ¬ t < tmps.size := by rw [ht.1]; exact hlt
          simp [hlt, h', Rep.lit]
      have one : ∃ v, ((match r with
          | .tmp t => pure (tmps.getD t undef)
          | .cell a t => do loadVar t (← asAddr (tmps.getD a undef))) : Sem Value).run P w = .ok v w ∧ Rep M β v d := by
        cases r with
        | tmp t => cases h1; exact ⟨_, rfl, hev t⟩
        | cell a t =>
          simp only [aResult] at h1
          obtain ⟨v, ad, e1, e2, e3⟩ := loadVar_ok (P := P) hT H (hev a) h1
          exact ⟨v, by simp only [e1]; simpa [asAddr] using e2, e3⟩
      obtain ⟨v, g1, g2⟩ := one
      refine ⟨v :: vs, ?_, by simp [k2], fun i u e hu he => ?_⟩
      · rw [List.mapM_cons]
        simp only [Sem.run_bind]
        rw [g1]
        simp only [Result.andThen_ok]
        rw [k1]
        simp
      · cases i with
        | zero => simp at hu he; subst hu; subst he; exact g2
        | succ i => exact k3 i u e (by simpa using hu) (by simpa using he)
    · cases hd
theorem oneOf_ok {M : Mem} {β : Bt} {vs : List Value} {ds : List D} (hl : vs.length = ds.length) (hr : ∀ (i : Nat) v d, vs[i]? = some v → ds[i]? = some d → Rep M β v d) :
    Rep M β (if h : vs.toArray.size = 1 then vs.toArray[0] else .tuple vs.toArray) (oneOf ds) := by
  match vs, ds, hl, hr with
  | [], [], _, _ => exact .tup rfl (by simp)
  | [v], [d], _, hr => exact hr 0 v d rfl rfl
  | v :: v2 :: vs, d :: d2 :: ds, hl, hr =>
    have : ¬ (v :: v2 :: vs).toArray.size = 1 := by simp
    rw [dif_neg this]
    exact .tup (by simpa using hl) fun i u e hu he => hr i u e (by simpa using hu) he

theorem andThen_of {α β : Type} {x : Result α} {v : α} {w : World} {f : α → World → Result β} (h : x = .ok v w) : x.andThen f = f v w := by rw [h]; rfl

theorem nextCall_ok {P : Program} {W : Wd} {r : R} (hT : W.T.ok P) (hF : ∀ f fn, W.F f = some fn → P.funcs[f]? = some fn) (hr : ROk P W r) : CallOk P W (nextCall W r) := by
  intro f args h d h' hc
  unfold nextCall at hc
  split at hc
  case h_2 => cases hc
  rename_i fn hfn
  split at hc
  case h_2 => cases hc
  rename_i c hb
  have main : ∃ e st, (e = .normal ∨ e = .ret) ∧ r.run c { ts := args ++ List.replicate (fn.ntmps - args.length) (.lit undef), h, df := [], rd := false } = some (e, st) ∧ (fn.name == "runtime.NumGoroutine") = false ∧ h.length ≤ st.h.length ∧ leave W fn st = some (d, h') := by
    split at hc
    · rename_i st hrun
      split at hc
      · cases hc
      · rename_i hn; simp at hn; exact ⟨_, st, .inl rfl, hrun, by simpa using hn.1, hn.2, hc⟩
    · rename_i st hrun
      split at hc
      · cases hc
      · rename_i hn; simp at hn; exact ⟨_, st, .inr rfl, hrun, by simpa using hn.1, hn.2, hc⟩
    · cases hc
  obtain ⟨e, st, he, hrun, hname, hlen, hleave⟩ := main
  have hf := hF f fn hfn
  refine ⟨⟨fn, hf, hname, by rw [hb]; rfl⟩, fun M β w vs hG H hv => ?_⟩
  refine callsIn_of_wp_marks hf hb trivial ?_
  have hst : StOk W.G M β { ts := args ++ List.replicate (fn.ntmps - args.length) (.lit undef), h, df := [], rd := false } { tmps := vs ++ Array.replicate (fn.ntmps - vs.size) undef, defers := [] } w := by
    refine ⟨H, ⟨by simp [hv.1], fun i v x h1 h2 => ?_⟩, ⟨rfl, by simp⟩, hG⟩
    by_cases hi : i < args.length
    · rw [List.getElem?_append_left hi] at h2
      simp only at h1
      rw [Array.getElem?_append_left (by rw [hv.1]; exact hi)] at h1
      exact hv.2 i v x h1 h2
    · rw [List.getElem?_append_right (by omega), List.getElem?_replicate] at h2
      simp only at h1
      rw [Array.getElem?_append_right (by rw [hv.1]; omega), Array.getElem?_replicate] at h1
      split at h2
      · cases h2
        split at h1
        · cases h1; exact .lit
        · cases h1
      · cases h2
  obtain ⟨_, _, hrun2⟩ := hr.run c _ e st hrun
  refine wpIn_mono (hrun2 none M β _ w (fun _ => rfl) hst) ?_
  rintro e' a' w' ⟨rfl, M', β', g, k, st'⟩
  have fin : LeavesInM (Wide none) 0 P fn a'.tmps (fun e w' => ∃ v M' β', e = .returned v ∧ Good M β w M' β' w' ∧ Keep h.length β β' ∧ HOk M' β' h' w' ∧ Rep M' β' v d) a'.defers .returning w' := by
    unfold leave at hleave
    split at hleave
    case h_2 => cases hleave
    rename_i h2 hk
    simp only [Option.map_eq_some_iff, Prod.mk.injEq] at hleave
    obtain ⟨ds, hres, rfl, rfl⟩ := hleave
    refine killAll_ok _ _ _ _ hk st'.h st'.d fun w2 g2 H2 => ?_
    obtain ⟨us, r1, r2, r3⟩ := results_ok hT H2 st'.t fn.results.toList ds hres
    refine ⟨_, ?_, _, M', β', rfl, g.trans g2, k, H2, oneOf_ok r2 r3⟩
    unfold results
    rw [Array.mapM_eq_mapM_toList]
    simp only [bind_assoc, pure_bind, map_eq_pure_bind]
    rw [Sem.run_bind]
    exact (andThen_of r1).trans (by rw [Sem.run_pure])
  rcases he with rfl | rfl
  · exact fin
  · exact fin
end Go.Xa
