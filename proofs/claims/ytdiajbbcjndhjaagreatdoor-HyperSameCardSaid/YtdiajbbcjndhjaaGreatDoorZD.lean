/- Facts of the place's own code. -/
import Derived.Test.YtdiajbbcjndhjaaGreatDoorZC
import Derived.Test.YtdiajbbcjndhjaaGreatDoorYD
namespace Go.Xa
open Go.RowKit Go.Proofs

def codeAt : List Nat → Code → Code
  | [], c => c
  | 0 :: p, .seq x _ => codeAt p x
  | _ :: p, .seq _ y => codeAt p y
  | 0 :: p, .cond _ x _ => codeAt p x
  | _ :: p, .cond _ _ y => codeAt p y
  | _ :: p, .block _ c => codeAt p c
  | _ :: p, .loop c => codeAt p c
  | _ :: p, .scope c => codeAt p c
  | 0 :: p, .rangeFunc _ _ s _ => codeAt p s
  | _ :: p, .rangeFunc _ _ _ bd => codeAt p bd
  | _ :: _, c => c
noncomputable def bodyOf (f : FuncId) : Code := match wd.F f with | some fn => fn.body.getD .skip | none => .skip
noncomputable def at_ (f : FuncId) (p : List Nat) : Code := codeAt p (bodyOf f)
abbrev QC (f : FuncId) (args : List D) (q : QR) : Prop := QCall Tryz.prog wd f args q
abbrev RN (n : Nat) (c : Code) (st : St) (e : Exit) (st' : St) : Prop := RunN Tryz.prog wd n c st e st'
abbrev LK (n : Nat) (c : Code) (k : Nat) (st : St) (e : Exit) (st' : St) : Prop := LoopK Tryz.prog wd n c k st e st'
noncomputable def xa : R := exec wd r0 60
theorem xa_ok : ROk Tryz.prog wd xa := x_ok 60
noncomputable def pBody (n m k : Nat) (c : Code) (st : St) (ov : List (Nat × Ov)) : Option (Exit × St × Prop) :=
  match px Tryz.prog wd xa n 200 c st ⟨0, ov, True⟩ with
  | some (e, st', s) => if weakOk n m k st' then some (e, st'.weak m k, s.p ∧ blksLt k (st'.h.take k)) else none
  | none => none
theorem pBody_ok {n m k : Nat} {c : Code} {st : St} (ov : List (Nat × Ov)) {e : Exit} {st' : St} {p : Prop} (h : pBody n m k c st ov = some (e, st', p)) (hp : p) : RN n c st e st' := by
  unfold pBody at h
  split at h
  · rename_i e1 st1 s hx
    split at h
    · rename_i hw
      cases h
      exact (px_ok wdT mixed xa_ok _ _ _ _ _ _ _ hx hp.1).2.post (weak_ok hw hp.2)
    · cases h
  · cases h
noncomputable def pFun (f : FuncId) (args : List D) (ov : List (Nat × Ov)) : Option (QR × Prop) :=
  match wd.F f with
  | some fn =>
    match fn.body with
    | some c =>
      match px Tryz.prog wd xa 0 200 c { ts := args ++ List.replicate (fn.ntmps - args.length) (.lit undef), h := [], df := [], rd := false } ⟨0, ov, True⟩ with
      | some (e, st, s) =>
        match e with
        | .normal | .ret =>
          if fn.name == "runtime.NumGoroutine" then none else
          match leave wd fn st with
          | some (d, h) => match finish (wd.ow f) d h with | some q => some (q, s.p) | none => none
          | none => none
        | _ => none
      | none => none
    | none => none
  | none => none
theorem pFun_ok {f : FuncId} {args : List D} (ov : List (Nat × Ov)) {q : QR} {p : Prop} (h : pFun f args ov = some (q, p)) (hp : p) : QC f args q := by
  unfold pFun at h
  split at h
  case h_2 => cases h
  rename_i fn hf
  split at h
  case h_2 => cases h
  rename_i c hb
  split at h
  case h_2 => cases h
  rename_i e st s hx
  have main : (e = .normal ∨ e = .ret) → ((if fn.name == "runtime.NumGoroutine" then none else
          match leave wd fn st with
          | some (d, h) => match finish (wd.ow f) d h with | some q => some (q, s.p) | none => none
          | none => none) = some (q, p)) → QC f args q := by
    intro he h
    split at h
    · cases h
    rename_i hn
    split at h
    case h_2 => cases h
    rename_i d h' hl
    split at h
    case h_2 => cases h
    rename_i q' hq
    cases h
    exact QCall.of_call (Call1.run wdT wdF hf hb ((px_ok wdT mixed xa_ok _ _ _ _ _ _ _ hx hp).2) he (by simpa using hn) hl) hq
  split at h
  · exact main (.inl rfl) h
  · exact main (.inr rfl) h
  · cases h
end Go.Xa
