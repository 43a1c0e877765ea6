/- transomlaw16.HyperSame: for any two systems (whatever memory they read from) the law returns true, and each reads behind the call as before. Conditions: the row's own alone (the table transom/isa.uses as the program's text lays it, which the card ties). -/
import Derived.Test.YtdiajbbcjndhjaaGreatDoorZR
import Derived.Test.YtdiajbbcjndhjaaGreatDoorZW
namespace Go.Proofs.YtdiajbbcjndhjaaGreatDoor
open Go Go.ChangeShapes Go.WideShapes Go.ChangeAt Go.RowKit Go.Xa
namespace hyperSame

theorem own : ownKnob Tryz.prog.godebug = none := by kernel_rfl
theorem laidOut : laidOutB Tryz.prog = true := by kernel_rfl

set_option maxRecDepth 100000 in
theorem contract (H : Type) (enc : TypeId × Value → H) (W : World) (base : Nat) (args : Array Value) (ds gs : List (DataW H)) (before : List MemPlace)
    (hval : ∀ (j : Nat) t v, Tryz.f6.params[j]? = some t → args[j]? = some v → Value.okWide Tryz.prog W .any base t v)
    (hW : DataW.Whole enc Tryz.prog Tryz.f6.params.toList Rows.hyperSameSpec.vars false W args.toList ds gs before) (hL : laidMetH Tryz.prog Rows.hyperSameRow.laid W) :
    Calls Tryz.prog 6 args W fun e W' => ∃ v, e = .returned v ∧ Rows.hyperSameSpec.post enc Tryz.prog Tryz.f6 false true false false W args v W' := by
  have hW' := hW
  obtain ⟨p, q, hA0, hV, rfl, hfz, hnd⟩ := hW
  have hA : DataW.TrodAll enc Tryz.prog W 0 (fun _ => true) true Tryz.f6.params.toList args.toList ds p := hA0
  rw [Tryz.params6] at hA hval
  obtain ⟨v0, v1, d0, d1, p0, p1, rfl, rfl, rfl, h0, h1⟩ := trodAll_two hA
  obtain ⟨rfl, rfl⟩ := trodVars_none hV
  obtain ⟨a, fa, ra⟩ := rep_agg (n := 11) (fs := [(0, 44), (4, 45), (5, 31), (6, 3), (7, 3), (8, 49), (9, 50), (10, 3)]) (by kernel_rfl) o_Sys (fun _ => by kernel_rfl) (hval 0 52 v0 rfl rfl) h0
  obtain ⟨b, fb, rb⟩ := rep_agg (n := 11) (fs := [(0, 44), (4, 45), (5, 31), (6, 3), (7, 3), (8, 49), (9, 50), (10, 3)]) (by kernel_rfl) o_Sys (fun _ => by kernel_rfl) (hval 1 52 v1 rfl rfl) h1
  have hr : RepL (memOf W) Bt.none #[v0, v1] [.agg (eSys a), .agg (eSys b)] := ⟨rfl, fun i v d hv hd => by
    match i with
    | 0 => simp at hv hd; subst hv; subst hd; exact ra
    | 1 => simp at hv hd; subst hv; subst hd; exact rb
    | i + 2 => simp at hd⟩
  refine (calls_start (f6_ok a b fa fb) (gok hL) hr).mono fun e W' he => ?_
  obtain ⟨rfl, hb⟩ := he
  have hlt := hW'.lt
  refine ⟨_, rfl, post_below (pa := p0 ++ p1) (pv := []) hW' (fun _ _ _ => trodAll_cons_mk (shut_bool Tryz.underlying4 _) trodAll_mk0) (fun sp hsp => ?_) (fun _ _ => rfl) rfl hb (ok_one (by kernel_rfl) rfl (okWide_bool_mk Tryz.underlying4 _))⟩
  have s0 := WideElems.Trod_stays laidOut (by kernel_rfl) (of_decide_eq_true (by kernel_rfl)) h0 (fun x hx => hb.same (hlt x (by simp [hx]))) (sp' := sp) (fun x hx => hsp x (by simp [hx]))
  have s1 := WideElems.Trod_stays laidOut (by kernel_rfl) (of_decide_eq_true (by kernel_rfl)) h1 (fun x hx => hb.same (hlt x (by simp [hx]))) (sp' := sp) (fun x hx => hsp x (by simp [hx]))
  have s2 := trodAll_cons_mk s0 (trodAll_cons_mk s1 trodAll_mk0)
  rw [List.append_nil] at s2
  exact s2

/-- A world for the witness: the settled one, the table (block 0) holding what its initialiser lays. -/
noncomputable def laidWorld (os : Os) : World :=
  { World.holding Tryz.prog os ⟨#[], #[], []⟩ with heap := (World.holding Tryz.prog os ⟨#[], #[], []⟩).heap.modify 0 fun
      | .cells _ t frozen => .cells (usesZ.map (Value.int .i64)).toArray t frozen
      | o => o }
def wit : Value := .agg #[.slice none 0 0, .int .i64 0, .slice none 0 0, .slice none 0 0, .slice none 0 0, .int .u64 0, .int .i64 0, .int .i64 0, .slice none 0 0, .slice none 0 0, .int .i64 0]
def wdat {H : Type} : DataW H := .agg [.agg [.nil, .lit (.int .i64 0), .nil, .nil], .nil, .lit (.int .u64 0), .lit (.int .i64 0), .lit (.int .i64 0), .nil, .nil, .lit (.int .i64 0)]
theorem laid_met (os : Os) : laidMet Tryz.prog Rows.hyperSameRow.laid ((laidWorld os).forCall (fun _ _ => 0) ⟨#[], #[wit, wit], []⟩).memory :=
  laidMet_of_run' 8 (by kernel_rfl) (by kernel_rfl)
theorem reads (os : Os) {H : Type} (enc : TypeId × Value → H) : ∃ places, DataW.whole enc Tryz.prog ((laidWorld os).forCall (fun _ _ => 0) ⟨#[], #[wit, wit], []⟩).memory Tryz.f6.params.toList Rows.hyperSameSpec.vars false #[wit, wit].toList 6 = some ([wdat, wdat], [], places) :=
  ⟨[], by kernel_rfl⟩

set_option maxRecDepth 100000
theorem w1 (os : Os) : ((laidWorld os).forCall (fun _ _ => 0) ⟨#[], #[wit, wit], []⟩).variablesB Tryz.checked.prog = true := by kernel_rfl
theorem w2 (os : Os) : (((laidWorld os).forCall (fun _ _ => 0) ⟨#[], #[wit, wit], []⟩).heap.toList.drop Tryz.checked.prog.globals.size).take ((begin Tryz.checked.prog (fun _ _ => 0) default).world.heap.size - Tryz.checked.prog.globals.size) =
    (begin Tryz.checked.prog (fun _ _ => 0) default).world.heap.toList.drop Tryz.checked.prog.globals.size := by kernel_rfl
theorem w3 (os : Os) : Input.okWideB Tryz.checked.prog ((laidWorld os).forCall (fun _ _ => 0) ⟨#[], #[wit, wit], []⟩) 6 ⟨#[], #[wit, wit], []⟩ = true := by kernel_rfl
theorem w4 : Tryz.checked.prog.inits.idxOf? 6 = none := by kernel_rfl
theorem sz (os : Os) (H : Type) (enc : TypeId × Value → H) : (OpenSpec.ofChange Rows.hyperSameSpec).bare.sizedB enc Tryz.prog Tryz.f6 false ((laidWorld os).forCall (fun _ _ => 0) ⟨#[], #[wit, wit], []⟩).memory #[wit, wit] 6 = true := by kernel_rfl
theorem pre (os : Os) (H : Type) (enc : TypeId × Value → H) : (OpenSpec.ofChange Rows.hyperSameSpec).preRow enc Tryz.prog Tryz.f6 Rows.hyperSameRow.domain false Rows.hyperSameRow.laid ((laidWorld os).forCall (fun _ _ => 0) ⟨#[], #[wit, wit], []⟩).memory #[wit, wit] := by
  obtain ⟨places, hx⟩ := reads os enc
  exact OpenSpec.preRow_of_cond 6 hx (by kernel_rfl) (fun k hk => by cases hk) (sz os H enc) (laid_met os)
theorem lifted (os : Os) (started : os.Started) (H : Type) (enc : TypeId × Value → H) (F : Stop.Interp) :
    ReturnsInHanded {} Tryz.checked os 6 .any ((OpenSpec.ofChange Rows.hyperSameSpec).preRow enc Tryz.prog Tryz.f6 Rows.hyperSameRow.domain false Rows.hyperSameRow.laid) (((OpenSpec.ofChange Rows.hyperSameSpec).at F).post enc Tryz.prog Tryz.f6 false true false false) := by
  refine returnsInHanded_of_row (C := Tryz.checked) (s := OpenSpec.ofChange Rows.hyperSameSpec) own started w4 Tryz.func6
    (witness_row_at (enc := enc) (C := Tryz.checked) false (laidWorld os) #[wit, wit] rfl (w1 os) (w2 os) (w3 os) (pre os H enc)) ?_
  intro W base args ds gs before hval hW _ _ _ hL _ _
  exact contract H enc W base args ds gs before hval hW hL

theorem hfn : Tryz.pinned.checked.prog.funcNamed Rows.hyperSameRow.func = some 6 := by kernel_rfl
theorem hinst : Tryz.f6.isInstance Tryz.pinned.checked.prog Rows.hyperSameRow.origin Rows.hyperSameRow.targs := of_decide_eq_true (by kernel_rfl)
theorem hwrap : Tryz.f6.isWrapper Tryz.pinned.checked.prog Rows.hyperSameRow.wrapper Rows.hyperSameRow.mainSum := by
  unfold Func.isWrapper
  first | (rw [if_pos (by decide +kernel)]; kernel_rfl) | (rw [if_neg (by decide +kernel)]; exact ⟨rfl, rfl⟩)
theorem j_wf : (Rows.hyperSameRow.wf (OpenSpec.ofChange (OpenSpec.ofChange Rows.hyperSameSpec).bare)) = true := by kernel_rfl
theorem j_lo : (laidOutB Tryz.pinned.checked.prog) = true := by kernel_rfl
theorem j_mr : (mapsRowed Tryz.pinned.checked.prog) = true := by kernel_rfl
theorem j_pr : (Tryz.f6.params.all (Tryz.pinned.checked.prog.readableRec ·)) = true := by kernel_rfl
theorem j_nt : (namedTie Tryz.pinned.checked.prog Rows.hyperSameRow.named (OpenSpec.ofChange Rows.hyperSameSpec).bare.vars) = true := by kernel_rfl
theorem j_st : (Rows.hyperSameRow.stops == []) = true := by kernel_rfl
theorem j_ps : (Tryz.pinned.checked.prog.stops == []) = true := by kernel_rfl
theorem j_kn : (Rows.hyperSameRow.knobs == []) = true := by kernel_rfl
theorem j_pk : (Tryz.pinned.checked.prog.stopKnobs == []) = true := by kernel_rfl
theorem j_ip : (Rows.hyperSameRow.inPlace == Tryz.pinned.checked.prog.inPlace 6) = true := by kernel_rfl
theorem j_uf : (Rows.hyperSameRow.unfollowed == Tryz.pinned.checked.prog.unfollowed 6) = true := by kernel_rfl
theorem j_rc : (Rows.hyperSameRow.recurses == Tryz.pinned.checked.prog.recurses 6) = true := by kernel_rfl
theorem j_vn : (Rows.hyperSameRow.named == Tryz.pinned.checked.prog.varsNamed 6) = true := by kernel_rfl
theorem j_mp : (Rows.hyperSameRow.maps == (Tryz.f6.params.toList ++ (OpenSpec.ofChange Rows.hyperSameSpec).bare.plain.varTypes Tryz.pinned.checked.prog).any (Tryz.pinned.checked.prog.mapsRec ·)) = true := by kernel_rfl
theorem j_ic : (Rows.hyperSameRow.ifaces == (Tryz.f6.params.toList ++ (OpenSpec.ofChange Rows.hyperSameSpec).bare.plain.varTypes Tryz.pinned.checked.prog).any (Tryz.pinned.checked.prog.ifacesRec ·)) = true := by kernel_rfl
theorem j_mo : (Rows.hyperSameRow.mapsOut == Tryz.pinned.checked.prog.mapsAmong Tryz.f6.resultTypes.toList) = true := by kernel_rfl
theorem j_lp : (Rows.hyperSameRow.loops == (Tryz.f6.params.toList ++ (OpenSpec.ofChange Rows.hyperSameSpec).bare.plain.varTypes Tryz.pinned.checked.prog).any (Tryz.pinned.checked.prog.loopsFrom ·)) = true := by kernel_rfl
theorem j_wk : (Rows.hyperSameRow.wideKeys == (Tryz.f6.params.toList ++ (OpenSpec.ofChange Rows.hyperSameSpec).bare.plain.varTypes Tryz.pinned.checked.prog ++ Tryz.f6.resultTypes.toList).any (Tryz.pinned.checked.prog.wideKeysFrom ·)) = true := by kernel_rfl
theorem j_vr : ((OpenSpec.ofChange Rows.hyperSameSpec).bare.vars.all (Tryz.pinned.checked.prog.varReadable ·)) = true := by kernel_rfl
theorem j_rr : (Tryz.f6.resultTypes.all (fun t => Tryz.pinned.checked.prog.readableRec t && decide (t < Tryz.pinned.checked.prog.types.size))) = true := by kernel_rfl
theorem j_io : (Rows.hyperSameRow.ifacesOut == Tryz.f6.resultTypes.toList.any (Tryz.pinned.checked.prog.ifacesRec ·)) = true := by kernel_rfl
theorem j_lO : (Rows.hyperSameRow.loopsOut == Tryz.f6.resultTypes.toList.any (Tryz.pinned.checked.prog.loopsFrom ·)) = true := by kernel_rfl
theorem j_plk : (Rows.hyperSameRow.plainKeys == Tryz.pinned.checked.prog.plainKeys) = true := by kernel_rfl
theorem j_sht : (Rows.hyperSameRow.shortTexts.isNone) = true := by kernel_rfl
theorem j_sh : (Tryz.pinned.checked.prog.stopsHeard) = true := by kernel_rfl
theorem j_me : (Tryz.pinned.checked.prog.mayEnter) = true := by kernel_rfl
theorem j_lf : (Rows.hyperSameRow.lifted == Tryz.pinned.checked.prog.liftsFinal) = true := by kernel_rfl
theorem j_mk : (Tryz.pinned.checked.prog.make == some Rows.hyperSameRow.make) = true := by kernel_rfl
theorem j_kd : (Rows.hyperSameRow.kinds == (if Rows.hyperSameRow.domain.isEmpty then [] else Tryz.f6.params.toList.map fun t => match Tryz.pinned.checked.prog.underlying t with | some (.int k) => some k | _ => none)) = true := by kernel_rfl
theorem j_pi : (Rows.hyperSameRow.pinned == Rows.hyperSameRow.pinnedBy) = true := by kernel_rfl
theorem j_ve : (Rows.hyperSameRow.veiled == (Tryz.f6.params.toList ++ (OpenSpec.ofChange Rows.hyperSameSpec).bare.plain.varTypes Tryz.pinned.checked.prog ++ Tryz.f6.resultTypes.toList).any (Tryz.pinned.checked.prog.veiledRec ·)) = true := by kernel_rfl
theorem j_vf : (Rows.hyperSameRow.veiledFits Tryz.pinned.checked.prog Tryz.f6.params.toList (Tryz.f6.params.toList ++ (OpenSpec.ofChange Rows.hyperSameSpec).bare.plain.varTypes Tryz.pinned.checked.prog ++ Tryz.f6.resultTypes.toList)) = true := by kernel_rfl
theorem closed : joinedFacts Tryz.pinned.checked.prog 6 Tryz.f6 (OpenSpec.ofChange Rows.hyperSameSpec).bare Rows.hyperSameRow = true := by
  unfold joinedFacts
  simp only [Bool.and_eq_true]
  exact ⟨⟨⟨⟨⟨⟨⟨⟨⟨⟨⟨⟨⟨⟨⟨⟨⟨⟨⟨⟨⟨⟨⟨⟨⟨⟨⟨⟨⟨⟨⟨j_wf, j_lo⟩, j_mr⟩, j_pr⟩, j_nt⟩, j_st⟩, j_ps⟩, j_kn⟩, j_pk⟩, j_ip⟩, j_uf⟩, j_rc⟩, j_vn⟩, j_mp⟩, j_ic⟩, j_mo⟩, j_lp⟩, j_wk⟩, j_vr⟩, j_rr⟩, j_io⟩, j_lO⟩, j_plk⟩, j_sht⟩, j_sh⟩, j_me⟩, j_lf⟩, j_mk⟩, j_kd⟩, j_pi⟩, j_ve⟩, j_vf⟩

theorem said : Rows.HyperSameSaid :=
  OpenClaim.holds_of_cond 6 Tryz.f6 rfl rfl rfl rfl rfl rfl rfl ⟨rfl, rfl, rfl, rfl, rfl⟩ rfl rfl rfl rfl rfl hfn Tryz.func6 closed
    hinst hwrap (fun os started H enc _ F => by rw [OpenClaim.pre_eq_preRow]; exact lifted os started H enc F)

theorem noLooks : false = Tryz.pinned.checked.prog.looks [] := by kernel_rfl
theorem noStand : Tryz.pinned.checked.prog.wantsStandIn 52 = false := by kernel_rfl
theorem plain (f : FuncId) (fn : Func) (hf : Tryz.pinned.checked.prog.funcNamed "transom/transomlaw16.HyperSame" = some f) (hfn : Tryz.pinned.checked.prog.funcs[f]? = some fn) :
    false = Tryz.pinned.checked.prog.looks [] ∧ ∀ (j : Nat) t, fn.params[j]? = some t → Tryz.pinned.checked.prog.wantsStandIn t = false := by
  have hfn' : Tryz.pinned.checked.prog.funcNamed "transom/transomlaw16.HyperSame" = some 6 := hyperSame.hfn
  obtain rfl : f = 6 := Option.some.inj (hfn'.symm.trans hf) |>.symm
  obtain rfl : fn = Tryz.f6 := (Option.some.inj (Tryz.func6.symm.trans hfn)).symm
  refine ⟨noLooks, fun j t ht => ?_⟩
  rw [Tryz.params6] at ht
  obtain rfl : t = 52 := by simpa using Array.mem_of_getElem? ht
  exact noStand
end hyperSame

/-- THE CARD. -/
theorem hyperSame_card : Rows.HyperSameCardSaid :=
  Claim7.holds_tied_plain_at .later [] _ _ _ _ hyperSame.said (fun _ h => by cases h) (by as_aux_lemma => kernel_rfl) (fun _ h => by cases h) hyperSame_row_tie rfl ⟨rfl, rfl⟩ (by as_aux_lemma => kernel_rfl) rfl hyperSame.plain (by as_aux_lemma => kernel_rfl)
end Go.Proofs.YtdiajbbcjndhjaaGreatDoor
