/- The table of types, out of a program. -/
import Derived.Test.YtdiajbbcjndhjaaGreatDoorXY
namespace Go.Xa
open Go.RowKit

def kindOf : TypeDesc → Option TK
  | .int k => some (.int k)
  | .bool => some .bool
  | .string => some .str
  | .slice e => some (.slice e)
  | .array n e => some (.arr n e)
  | .struct fs => some (.struct (fs.toList.map fun f => (f.offset, f.type)))
  | .pointer e => some (.ptr e)
  | .func _ _ _ => some .func
  | _ => none
def tblOf (P : Program) (t : TypeId) : Option TI :=
  match P.info? t, P.underlying t with
  | some inf, some d =>
    match inf.zero, kindOf d with
    | some z, some k =>
      if z.cells.size == inf.size && z.cells.toList.all (fun v => v.oneCell') && !P.stoodInHeld t && (P.fieldsOf t).toList.all (fun f => f.name != "_") && !P.eqGuardType P.depth t then
        some { size := inf.size, bytes := inf.bytes, kind := k, zero := z.cells.toList.map absCell }
      else none
    | _, _ => none
  | _, _ => none
theorem tblOf_ok {P : Program} {t : TypeId} {i : TI} (h : tblOf P t = some i) : TOk P t i := by
  unfold tblOf at h
  split at h
  · rename_i inf d h1 h2
    split at h
    · rename_i z k h3 h4
      split at h
      · rename_i hc
        simp only [Bool.and_eq_true, beq_iff_eq, List.all_eq_true, Bool.not_eq_true', bne_iff_ne, ne_eq] at hc
        obtain ⟨⟨⟨⟨c1, c2⟩, c3⟩, c4⟩, c5⟩ := hc
        cases h
        refine ⟨⟨inf, z, h1, rfl, rfl, h3, rfl, c1, c2⟩, ⟨d, h2, ?_⟩, c3, fun f hf => c4 f (by simpa using hf), c5⟩
        cases d <;> simp only [kindOf, Option.some.injEq] at h4 <;> first | (subst h4; simp [kindOk]) | (cases h4; done)
      · cases h
    · cases h
  · cases h
/-! ### Rows by number -/
inductive Tr (α : Type) where
  | leaf
  | node (l : Tr α) (k : Nat) (v : α) (r : Tr α)
def Tr.find {α : Type} (t : Nat) : Tr α → Option α
  | .leaf => none
  | .node l k v r => bif Nat.beq t k then some v else bif Nat.ble t k then l.find t else r.find t
def Tr.All {α : Type} (p : Nat → α → Prop) : Tr α → Prop
  | .leaf => True
  | .node l k v r => l.All p ∧ p k v ∧ r.All p
theorem Tr.find_all {α : Type} {p : Nat → α → Prop} {t : Nat} {v : α} : ∀ (x : Tr α), x.All p → x.find t = some v → p t v
  | .leaf, _, h => by cases h
  | .node l k u r, ⟨a1, a2, a3⟩, h => by
    simp only [Tr.find] at h
    cases h1 : Nat.beq t k with
    | true =>
      rw [h1] at h
      cases h
      have := Nat.eq_of_beq_eq_true h1
      subst this
      exact a2
    | false =>
      rw [h1] at h
      cases h2 : Nat.ble t k with
      | true => rw [h2] at h; exact Tr.find_all l a1 h
      | false => rw [h2] at h; exact Tr.find_all r a3 h
end Go.Xa
