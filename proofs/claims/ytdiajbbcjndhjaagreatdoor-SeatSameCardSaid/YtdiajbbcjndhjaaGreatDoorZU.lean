/- transomlaw14.SeatSame: for any two seats (whatever memory they read from) the law returns true, and each reads behind the call as before. Conditions: the row's own alone (the table transom/isa.uses as the program's text lays it, which the card ties). -/
import Derived.Test.YtdiajbbcjndhjaaGreatDoorZR
import Derived.Test.YtdiajbbcjndhjaaGreatDoorZT
namespace Go.Proofs.YtdiajbbcjndhjaaGreatDoor
open Go Go.ChangeShapes Go.WideShapes Go.ChangeAt Go.RowKit Go.Xa
namespace seatSame

theorem own : ownKnob Tryz.prog.godebug = none := by kernel_rfl
theorem laidOut : laidOutB Tryz.prog = true := by kernel_rfl

set_option maxRecDepth 100000 in
theorem contract (H : Type) (enc : TypeId × Value → H) (W : World) (base : Nat) (args : Array Value) (ds gs : List (DataW H)) (before : List MemPlace)
    (hval : ∀ (j : Nat) t v, Tryz.f5.params[j]? = some t → args[j]? = some v → Value.okWide Tryz.prog W .any base t v)
    (hW : DataW.Whole enc Tryz.prog Tryz.f5.params.toList Rows.seatSameSpec.vars false W args.toList ds gs before) (hL : laidMetH Tryz.prog Rows.seatSameRow.laid W) :
    Calls Tryz.prog 5 args W fun e W' => ∃ v, e = .returned v ∧ Rows.seatSameSpec.post enc Tryz.prog Tryz.f5 false true false false W args v W' := by
  have hW' := hW
  obtain ⟨p, q, hA0, hV, rfl, hfz, hnd⟩ := hW
  have hA : DataW.TrodAll enc Tryz.prog W 0 (fun _ => true) true Tryz.f5.params.toList args.toList ds p := hA0
  rw [Tryz.params5] at hA hval
  obtain ⟨v0, v1, d0, d1, p0, p1, rfl, rfl, rfl, h0, h1⟩ := trodAll_two hA
  obtain ⟨rfl, rfl⟩ := trodVars_none hV
  obtain ⟨a, fa, ra⟩ := rep_agg (n := 19) (fs := [(0, 38), (17, 3), (18, 3)]) (by kernel_rfl) o_Seat (fun _ => by kernel_rfl) (hval 0 63 v0 rfl rfl) h0
  obtain ⟨b, fb, rb⟩ := rep_agg (n := 19) (fs := [(0, 38), (17, 3), (18, 3)]) (by kernel_rfl) o_Seat (fun _ => by kernel_rfl) (hval 1 63 v1 rfl rfl) h1
  have hr : RepL (memOf W) Bt.none #[v0, v1] [.agg (eSeat a), .agg (eSeat b)] := ⟨rfl, fun i v d hv hd => by
    match i with
    | 0 => simp at hv hd; subst hv; subst hd; exact ra
    | 1 => simp at hv hd; subst hv; subst hd; exact rb
    | i + 2 => simp at hd⟩
  refine (calls_start (f5_ok a b fa fb) (gok hL) hr).mono fun e W' he => ?_
  obtain ⟨rfl, hb⟩ := he
  have hlt := hW'.lt
  refine ⟨_, rfl, post_below (pa := p0 ++ p1) (pv := []) hW' (fun _ _ _ => trodAll_cons_mk (shut_bool Tryz.underlying4 _) trodAll_mk0) (fun sp hsp => ?_) (fun _ _ => rfl) rfl hb (ok_one (by kernel_rfl) rfl (okWide_bool_mk Tryz.underlying4 _))⟩
  have s0 := WideElems.Trod_stays laidOut (by kernel_rfl) (of_decide_eq_true (by kernel_rfl)) h0 (fun x hx => hb.same (hlt x (by simp [hx]))) (sp' := sp) (fun x hx => hsp x (by simp [hx]))
  have s1 := WideElems.Trod_stays laidOut (by kernel_rfl) (of_decide_eq_true (by kernel_rfl)) h1 (fun x hx => hb.same (hlt x (by simp [hx]))) (sp' := sp) (fun x hx => hsp x (by simp [hx]))
  have s2 := trodAll_cons_mk s0 (trodAll_cons_mk s1 trodAll_mk0)
  rw [List.append_nil] at s2
  exact s2

/-- A world for the witness: the settled one, the table (block 0) holding what its initialiser lays. -/
noncomputable def laidWorld (os : Os) : World :=
  { World.holding Tryz.prog os ⟨#[], #[], []⟩ with heap := (World.holding Tryz.prog os ⟨#[], #[], []⟩).heap.modify 0 fun
      | .cells _ t frozen => .cells (usesZ.map (Value.int .i64)).toArray t frozen
      | o => o }
def wit : Value := .agg #[.slice none 0 0, .slice none 0 0, .int .i64 0, .slice none 0 0, .slice none 0 0, .int .i64 0, .slice none 0 0, .int .u64 0, .slice none 0 0, .slice none 0 0, .slice none 0 0, .slice none 0 0, .string ⟨#[]⟩, .slice none 0 0, .slice none 0 0, .int .i64 0, .int .i64 0, .int .i64 0, .int .i64 0]
def wdat {H : Type} : DataW H := .agg [.agg [.nil, .agg [.nil, .lit (.int .i64 0)], .nil, .nil, .agg [.lit (.int .i64 0), .nil], .lit (.int .u64 0), .nil, .nil, .nil, .nil, .lit (.string []), .nil, .nil, .lit (.int .i64 0), .lit (.int .i64 0)], .lit (.int .i64 0), .lit (.int .i64 0)]
theorem laid_met (os : Os) : laidMet Tryz.prog Rows.seatSameRow.laid ((laidWorld os).forCall (fun _ _ => 0) ⟨#[], #[wit, wit], []⟩).memory :=
  laidMet_of_run' 8 (by kernel_rfl) (by kernel_rfl)
theorem reads (os : Os) {H : Type} (enc : TypeId × Value → H) : ∃ places, DataW.whole enc Tryz.prog ((laidWorld os).forCall (fun _ _ => 0) ⟨#[], #[wit, wit], []⟩).memory Tryz.f5.params.toList Rows.seatSameSpec.vars false #[wit, wit].toList 6 = some ([wdat, wdat], [], places) :=
  ⟨[], by kernel_rfl⟩

set_option maxRecDepth 100000
theorem w1 (os : Os) : ((laidWorld os).forCall (fun _ _ => 0) ⟨#[], #[wit, wit], []⟩).variablesB Tryz.checked.prog = true := by kernel_rfl
theorem w2 (os : Os) : (((laidWorld os).forCall (fun _ _ => 0) ⟨#[], #[wit, wit], []⟩).heap.toList.drop Tryz.checked.prog.globals.size).take ((begin Tryz.checked.prog (fun _ _ => 0) default).world.heap.size - Tryz.checked.prog.globals.size) =
    (begin Tryz.checked.prog (fun _ _ => 0) default).world.heap.toList.drop Tryz.checked.prog.globals.size := by kernel_rfl
theorem w3 (os : Os) : Input.okWideB Tryz.checked.prog ((laidWorld os).forCall (fun _ _ => 0) ⟨#[], #[wit, wit], []⟩) 5 ⟨#[], #[wit, wit], []⟩ = true := by kernel_rfl
theorem w4 : Tryz.checked.prog.inits.idxOf? 5 = none := by kernel_rfl
theorem sz (os : Os) (H : Type) (enc : TypeId × Value → H) : (OpenSpec.ofChange Rows.seatSameSpec).bare.sizedB enc Tryz.prog Tryz.f5 false ((laidWorld os).forCall (fun _ _ => 0) ⟨#[], #[wit, wit], []⟩).memory #[wit, wit] 6 = true := by kernel_rfl
theorem pre (os : Os) (H : Type) (enc : TypeId × Value → H) : (OpenSpec.ofChange Rows.seatSameSpec).preRow enc Tryz.prog Tryz.f5 Rows.seatSameRow.domain false Rows.seatSameRow.laid ((laidWorld os).forCall (fun _ _ => 0) ⟨#[], #[wit, wit], []⟩).memory #[wit, wit] := by
  obtain ⟨places, hx⟩ := reads os enc
  exact OpenSpec.preRow_of_cond 6 hx (by kernel_rfl) (fun k hk => by cases hk) (sz os H enc) (laid_met os)
theorem lifted (os : Os) (started : os.Started) (H : Type) (enc : TypeId × Value → H) (F : Stop.Interp) :
    ReturnsInHanded {} Tryz.checked os 5 .any ((OpenSpec.ofChange Rows.seatSameSpec).preRow enc Tryz.prog Tryz.f5 Rows.seatSameRow.domain false Rows.seatSameRow.laid) (((OpenSpec.ofChange Rows.seatSameSpec).at F).post enc Tryz.prog Tryz.f5 false true false false) := by
  refine returnsInHanded_of_row (C := Tryz.checked) (s := OpenSpec.ofChange Rows.seatSameSpec) own started w4 Tryz.func5
    (witness_row_at (enc := enc) (C := Tryz.checked) false (laidWorld os) #[wit, wit] rfl (w1 os) (w2 os) (w3 os) (pre os H enc)) ?_
  intro W base args ds gs before hval hW _ _ _ hL _ _
  exact contract H enc W base args ds gs before hval hW hL

theorem hfn : Tryz.pinned.checked.prog.funcNamed Rows.seatSameRow.func = some 5 := by kernel_rfl
theorem hinst : Tryz.f5.isInstance Tryz.pinned.checked.prog Rows.seatSameRow.origin Rows.seatSameRow.targs := of_decide_eq_true (by kernel_rfl)
theorem hwrap : Tryz.f5.isWrapper Tryz.pinned.checked.prog Rows.seatSameRow.wrapper Rows.seatSameRow.mainSum := by
  unfold Func.isWrapper
  first | (rw [if_pos (by decide +kernel)]; kernel_rfl) | (rw [if_neg (by decide +kernel)]; exact ⟨rfl, rfl⟩)
theorem j_wf : (Rows.seatSameRow.wf (OpenSpec.ofChange (OpenSpec.ofChange Rows.seatSameSpec).bare)) = true := by kernel_rfl
theorem j_lo : (laidOutB Tryz.pinned.checked.prog) = true := by kernel_rfl
theorem j_mr : (mapsRowed Tryz.pinned.checked.prog) = true := by kernel_rfl
theorem j_pr : (Tryz.f5.params.all (Tryz.pinned.checked.prog.readableRec ·)) = true := by kernel_rfl
theorem j_nt : (namedTie Tryz.pinned.checked.prog Rows.seatSameRow.named (OpenSpec.ofChange Rows.seatSameSpec).bare.vars) = true := by kernel_rfl
theorem j_st : (Rows.seatSameRow.stops == []) = true := by kernel_rfl
theorem j_ps : (Tryz.pinned.checked.prog.stops == []) = true := by kernel_rfl
theorem j_kn : (Rows.seatSameRow.knobs == []) = true := by kernel_rfl
theorem j_pk : (Tryz.pinned.checked.prog.stopKnobs == []) = true := by kernel_rfl
theorem j_ip : (Rows.seatSameRow.inPlace == Tryz.pinned.checked.prog.inPlace 5) = true := by kernel_rfl
theorem j_uf : (Rows.seatSameRow.unfollowed == Tryz.pinned.checked.prog.unfollowed 5) = true := by kernel_rfl
theorem j_rc : (Rows.seatSameRow.recurses == Tryz.pinned.checked.prog.recurses 5) = true := by kernel_rfl
theorem j_vn : (Rows.seatSameRow.named == Tryz.pinned.checked.prog.varsNamed 5) = true := by kernel_rfl
theorem j_mp : (Rows.seatSameRow.maps == (Tryz.f5.params.toList ++ (OpenSpec.ofChange Rows.seatSameSpec).bare.plain.varTypes Tryz.pinned.checked.prog).any (Tryz.pinned.checked.prog.mapsRec ·)) = true := by kernel_rfl
theorem j_ic : (Rows.seatSameRow.ifaces == (Tryz.f5.params.toList ++ (OpenSpec.ofChange Rows.seatSameSpec).bare.plain.varTypes Tryz.pinned.checked.prog).any (Tryz.pinned.checked.prog.ifacesRec ·)) = true := by kernel_rfl
theorem j_mo : (Rows.seatSameRow.mapsOut == Tryz.pinned.checked.prog.mapsAmong Tryz.f5.resultTypes.toList) = true := by kernel_rfl
theorem j_lp : (Rows.seatSameRow.loops == (Tryz.f5.params.toList ++ (OpenSpec.ofChange Rows.seatSameSpec).bare.plain.varTypes Tryz.pinned.checked.prog).any (Tryz.pinned.checked.prog.loopsFrom ·)) = true := by kernel_rfl
theorem j_wk : (Rows.seatSameRow.wideKeys == (Tryz.f5.params.toList ++ (OpenSpec.ofChange Rows.seatSameSpec).bare.plain.varTypes Tryz.pinned.checked.prog ++ Tryz.f5.resultTypes.toList).any (Tryz.pinned.checked.prog.wideKeysFrom ·)) = true := by kernel_rfl
theorem j_vr : ((OpenSpec.ofChange Rows.seatSameSpec).bare.vars.all (Tryz.pinned.checked.prog.varReadable ·)) = true := by kernel_rfl
theorem j_rr : (Tryz.f5.resultTypes.all (fun t => Tryz.pinned.checked.prog.readableRec t && decide (t < Tryz.pinned.checked.prog.types.size))) = true := by kernel_rfl
theorem j_io : (Rows.seatSameRow.ifacesOut == Tryz.f5.resultTypes.toList.any (Tryz.pinned.checked.prog.ifacesRec ·)) = true := by kernel_rfl
theorem j_lO : (Rows.seatSameRow.loopsOut == Tryz.f5.resultTypes.toList.any (Tryz.pinned.checked.prog.loopsFrom ·)) = true := by kernel_rfl
theorem j_plk : (Rows.seatSameRow.plainKeys == Tryz.pinned.checked.prog.plainKeys) = true := by kernel_rfl
theorem j_sht : (Rows.seatSameRow.shortTexts.isNone) = true := by kernel_rfl
theorem j_sh : (Tryz.pinned.checked.prog.stopsHeard) = true := by kernel_rfl
theorem j_me : (Tryz.pinned.checked.prog.mayEnter) = true := by kernel_rfl
theorem j_lf : (Rows.seatSameRow.lifted == Tryz.pinned.checked.prog.liftsFinal) = true := by kernel_rfl
theorem j_mk : (Tryz.pinned.checked.prog.make == some Rows.seatSameRow.make) = true := by kernel_rfl
theorem j_kd : (Rows.seatSameRow.kinds == (if Rows.seatSameRow.domain.isEmpty then [] else Tryz.f5.params.toList.map fun t => match Tryz.pinned.checked.prog.underlying t with | some (.int k) => some k | _ => none)) = true := by kernel_rfl
theorem j_pi : (Rows.seatSameRow.pinned == Rows.seatSameRow.pinnedBy) = true := by kernel_rfl
theorem j_ve : (Rows.seatSameRow.veiled == (Tryz.f5.params.toList ++ (OpenSpec.ofChange Rows.seatSameSpec).bare.plain.varTypes Tryz.pinned.checked.prog ++ Tryz.f5.resultTypes.toList).any (Tryz.pinned.checked.prog.veiledRec ·)) = true := by kernel_rfl
theorem j_vf : (Rows.seatSameRow.veiledFits Tryz.pinned.checked.prog Tryz.f5.params.toList (Tryz.f5.params.toList ++ (OpenSpec.ofChange Rows.seatSameSpec).bare.plain.varTypes Tryz.pinned.checked.prog ++ Tryz.f5.resultTypes.toList)) = true := by kernel_rfl
theorem closed : joinedFacts Tryz.pinned.checked.prog 5 Tryz.f5 (OpenSpec.ofChange Rows.seatSameSpec).bare Rows.seatSameRow = true := by
  unfold joinedFacts
  simp only [Bool.and_eq_true]
  exact ⟨⟨⟨⟨⟨⟨⟨⟨⟨⟨⟨⟨⟨⟨⟨⟨⟨⟨⟨⟨⟨⟨⟨⟨⟨⟨⟨⟨⟨⟨⟨j_wf, j_lo⟩, j_mr⟩, j_pr⟩, j_nt⟩, j_st⟩, j_ps⟩, j_kn⟩, j_pk⟩, j_ip⟩, j_uf⟩, j_rc⟩, j_vn⟩, j_mp⟩, j_ic⟩, j_mo⟩, j_lp⟩, j_wk⟩, j_vr⟩, j_rr⟩, j_io⟩, j_lO⟩, j_plk⟩, j_sht⟩, j_sh⟩, j_me⟩, j_lf⟩, j_mk⟩, j_kd⟩, j_pi⟩, j_ve⟩, j_vf⟩

theorem said : Rows.SeatSameSaid :=
  OpenClaim.holds_of_cond 5 Tryz.f5 rfl rfl rfl rfl rfl rfl rfl ⟨rfl, rfl, rfl, rfl, rfl⟩ rfl rfl rfl rfl rfl hfn Tryz.func5 closed
    hinst hwrap (fun os started H enc _ F => by rw [OpenClaim.pre_eq_preRow]; exact lifted os started H enc F)

theorem noLooks : false = Tryz.pinned.checked.prog.looks [] := by kernel_rfl
theorem noStand : Tryz.pinned.checked.prog.wantsStandIn 63 = false := by kernel_rfl
theorem plain (f : FuncId) (fn : Func) (hf : Tryz.pinned.checked.prog.funcNamed "transom/transomlaw14.SeatSame" = some f) (hfn : Tryz.pinned.checked.prog.funcs[f]? = some fn) :
    false = Tryz.pinned.checked.prog.looks [] ∧ ∀ (j : Nat) t, fn.params[j]? = some t → Tryz.pinned.checked.prog.wantsStandIn t = false := by
  have hfn' : Tryz.pinned.checked.prog.funcNamed "transom/transomlaw14.SeatSame" = some 5 := seatSame.hfn
  obtain rfl : f = 5 := Option.some.inj (hfn'.symm.trans hf) |>.symm
  obtain rfl : fn = Tryz.f5 := (Option.some.inj (Tryz.func5.symm.trans hfn)).symm
  refine ⟨noLooks, fun j t ht => ?_⟩
  rw [Tryz.params5] at ht
  obtain rfl : t = 63 := by simpa using Array.mem_of_getElem? ht
  exact noStand
end seatSame

/-- THE CARD. -/
theorem seatSame_card : Rows.SeatSameCardSaid :=
  Claim7.holds_tied_plain_at .later [] _ _ _ _ seatSame.said (fun _ h => by cases h) (by as_aux_lemma => kernel_rfl) (fun _ h => by cases h) seatSame_row_tie rfl ⟨rfl, rfl⟩ (by as_aux_lemma => kernel_rfl) rfl seatSame.plain (by as_aux_lemma => kernel_rfl)
end Go.Proofs.YtdiajbbcjndhjaaGreatDoor
