/- From a reading of memory to the program's data, and back. -/
import Derived.Test.YtdiajbbcjndhjaaGreatDoorZP
import Derived.Test.YtdiajbbcjndhjaaGreatDoorCards
import Derived.Test.YtdiajbbcjndhjaaGreatDoorTie
import Derived.WalkKit
import Derived.ProofKit
import Derived.OpenShut
import Derived.Deep.DeepHandedRow
import Derived.Lib.LaidTab
namespace Go.Xa
open Go.RowKit Go.Proofs Go.ChangeShapes Go.WideShapes Go.ChangeAt

set_option maxRecDepth 100000
theorem post_below {H : Type} {enc : TypeId × Value → H} {P : Program} {f : Func} {s : ChangeSpec} {apart fresh handsOn again : Bool} {W W' : World} {args : Array Value} {v : Value} {ds gs : List (DataW H)} {before pa pv : List MemPlace}
    (hW : DataW.Whole enc P f.params.toList s.vars apart W args.toList ds gs before)
    (hres : ∀ (b : Nat) (sp : Nat → Bool) (hd : Bool), DataW.TrodAll enc P W' b sp hd f.resultTypes.toList (v.resultList f.resultTypes.size) (s.fn H (ds ++ gs)).results [])
    (hargs : ∀ sp : Nat → Bool, (∀ p ∈ before, sp p.block = true) → DataW.TrodAll enc P W' 0 sp true f.params.toList args.toList (s.fn H (ds ++ gs)).args pa)
    (hvars : ∀ sp : Nat → Bool, (∀ p ∈ before, sp p.block = true) → DataW.TrodVars enc P W' sp s.vars (s.fn H (ds ++ gs)).vars pv)
    (hps : before = pa ++ pv) (hb : Below W.heap.size W W')
    (hok : ∀ (j : Nat) (t : TypeId) (r : Value), f.resultTypes[j]? = some t → (v.resultList f.resultTypes.size)[j]? = some r → Value.okWide P W' .any 0 t r) :
    s.post enc P f apart fresh handsOn again W args v W' := by
  have hold : ∀ p ∈ before, (fun b => decide (b < W.heap.size)) p.block = true := fun p hp => by simpa using hW.lt p hp
  refine ⟨ds, gs, before, [], pa, pv, hW, hres _ _ _, hargs _ hold, hvars _ hold, World.keptBut_mono (fun p hp => ⟨hp, ?_⟩) (hb.frame (· ∈ before)), fun _ => ?_⟩
  · rw [hps, List.mem_append] at hp
    exact Or.inr hp
  · have hlt := hW.lt
    obtain ⟨_, _, _, _, _, hz, hn⟩ := hW
    refine ⟨hok, _, _, ([] ++ pa) ++ pv, ⟨[] ++ pa, pv, trodAll_append (hargs _ (fun _ _ => rfl)) (hres _ _ _), hvars _ (fun _ _ => rfl), rfl, ?_, ?_⟩, ?_⟩
    · intro b off hp
      have hp' : MemPlace.cell b off ∈ before := by rw [hps]; simpa using hp
      rw [hb.frozen (hlt _ hp')]
      exact hz b off hp'
    · intro ha
      have := hn ha
      rw [hps] at this
      simpa using this
    · intro p hp _
      rw [hps]
      simpa using hp

theorem gTab : Tryz.prog.globalNamed "transom/isa.uses" = some 0 := by kernel_rfl
theorem gTabType : (Tryz.prog.globals[0]?).map (·.type) = some 360 := by kernel_rfl
def usesZ : List Int := [0, 5, 5, 3, 3, 3, 3, 3, 3, 3, 3, 3, 3, 5, 7, 7, 7, 7, 4, 5, 1, 7, 7, 7, 0]
theorem table {W : World} (h : laidMetH Tryz.prog [("transom/isa.uses", YtdiajbbcjndhjaaGreatDoor.Rows.laid_transom_isa_uses)] W) : Lib.TabIs Tryz.prog W "transom/isa.uses" .i64 usesZ :=
  Lib.tabIs_of_head (rest := []) (n := 25) (e := 3) (t := 360) gTab gTabType (by kernel_rfl) (by kernel_rfl) (by kernel_rfl) (by kernel_rfl) h
theorem gok {W : World} (h : laidMetH Tryz.prog [("transom/isa.uses", YtdiajbbcjndhjaaGreatDoor.Rows.laid_transom_isa_uses)] W) : GOk (memOf W) wd.G := by
  intro g
  cases g with
  | zero =>
    have hG : wd.G 0 = .pptr (usesZ.map (.int .i64)) := by kernel_rfl
    rw [hG]
    have hc : ∀ i, i < usesZ.length → cellOf (memOf W) 0 i = some (.int .i64 (usesZ.getD i 0)) := fun i hi => by
      have := (table h).cell gTab i hi
      unfold World.cell? at this
      unfold cellOf memOf
      split at this
      · rename_i hb
        rw [hb]
        simpa using this
      · cases this
    refine .pptr (fun j => .int .i64 (usesZ.getD j 0)) (fun j hj => ?_) (fun j d hd => ?_) (fun d hd => ?_)
    · rw [Nat.zero_add]; exact hc j (by simpa using hj)
    · simp only [List.getElem?_map, Option.map_eq_some_iff] at hd
      obtain ⟨z, hz, rfl⟩ := hd
      simp only [List.getD, hz, Option.getD_some]
      exact .int
    · obtain ⟨z, _, rfl⟩ := List.mem_map.1 hd
      rfl
  | succ g =>
    have hG : wd.G (g + 1) = .undef := rfl
    rw [hG]
    exact .undef
/-- Everything as it stands, and no block of the call's own. -/
theorem start_ok (W : World) : HOk (memOf W) Bt.none [] W := ⟨by simp, by simp, fun _ _ => rfl, by simp, fun _ _ h => h, fun _ _ h => by simp [Bt.none] at h⟩
theorem rep_agg {W : World} {H : Type} {enc : TypeId × Value → H} {t : TypeId} {v : Value} {d : DataW H} {p : List MemPlace} {α : Type} {en : α → List D} {G : α → Prop} {n : Nat} {fs : List (Nat × TypeId)} (hs : structOf t = some (n, fs)) (ho : Opens H enc W t en G) (hk : ∀ a, (en a).all D.cell = true)
    {base : Nat} (hv : Value.okWide Tryz.prog W .any base t v) (h : DataW.Trod enc Tryz.prog W 0 (fun _ => true) true t v d p) : ∃ a, G a ∧ Rep (memOf W) Bt.none v (.agg (en a)) := by
  obtain ⟨fuel, hf⟩ := h
  obtain ⟨a, ga, h1, h2⟩ := ho fuel _ _ hf
  unfold structOf at hs
  split at hs
  case h_2 => cases hs
  rename_i h0
  obtain ⟨dd, u1, u2⟩ := (wdT t _ h0).kind
  cases dd <;> simp only [kindOk] at u2
  simp only [Value.okWide, u1] at hv
  obtain ⟨cs, rfl, _⟩ := hv
  refine ⟨a, ga, .agg (by simpa [Value.cells] using h1) (fun i u e hu he => h2 i u e (by simpa [Value.cells] using hu) he) fun d hd => List.all_eq_true.1 (hk a) d hd⟩
/-- A call of the place's, from the start. -/
theorem calls_start {f : FuncId} {ds : List D} {b : Bool} (hq : QC f ds (.val (.bool b))) {W : World} (hG : GOk (memOf W) wd.G) {args : Array Value} (hr : RepL (memOf W) Bt.none args ds) : Calls Tryz.prog f args W fun e W' => e = .returned (.bool b) ∧ Below W.heap.size W W' := by
  have h := hq.2 (memOf W) Bt.none [] W args 0 hG (start_ok W) ⟨rfl, .inl rfl⟩ hr
  refine CallsIn.calls (h.mono fun e W' he => ?_) (fun k => wide_room none k)
  obtain ⟨v, M', β', rfl, g, _, _, hv⟩ := he
  have hv' : Rep M' β' v (.bool b) := hv
  cases hv'
  exact ⟨rfl, ⟨g.ext.os, g.ext.tape, g.ext.output, g.ext.size, fun k hk => g.ext.block k hk (none_has k)⟩⟩
end Go.Xa
