/- Arithmetic, comparisons, conversions. -/
import Derived.Test.YtdiajbbcjndhjaaGreatDoorXE
import Derived.ChangeKeysEq
namespace Go.Xa
open Go.RowKit

def eqParts (T : Tbl) (eq : TypeId → List D → List D → Option Bool) : List (Nat × TypeId) → List D → List D → Option Bool
  | [], _, _ => some true
  | (off, t) :: ps, xs, ys =>
    match T t with
    | some i =>
      if off + i.size ≤ xs.length ∧ off + i.size ≤ ys.length then
        match eq t ((xs.drop off).take i.size) ((ys.drop off).take i.size), eqParts T eq ps xs ys with
        | some a, some b => some (a && b)
        | _, _ => none
      else none
    | none => none
def eqD (T : Tbl) : Nat → TypeId → List D → List D → Option Bool
  | 0, _, _, _ => none
  | f + 1, t, xs, ys =>
    match T t with
    | some { kind := .int _, .. } =>
      match xs, ys with
      | [.int k a], [.int k' b] => if k = k' then some (a == b) else none
      | _, _ => none
    | some { kind := .bool, .. } =>
      match xs, ys with
      | [.bool a], [.bool b] => some (a == b)
      | _, _ => none
    | some { kind := .str, .. } =>
      match xs, ys with
      | [.str a], [.str b] => some (a == b)
      | _, _ => none
    | some { kind := .struct fs, .. } => eqParts T (eqD T f) fs xs ys
    | some { kind := .arr n e, .. } =>
      match T e with
      | some ei => eqParts T (eqD T f) ((List.range n).map fun k => (k * ei.size, e)) xs ys
      | none => none
    | _ => none

/-- A value as a variable of its kind bears it. -/
def VOf (i : TI) (x : Value) (vs : Array Value) : Prop := if i.kind.isAgg then x = .agg vs else vs = #[x]
def RepL (M : Mem) (β : Bt) (vs : Array Value) (ds : List D) : Prop := vs.size = ds.length ∧ ∀ (i : Nat) v d, vs[i]? = some v → ds[i]? = some d → Rep M β v d
theorem repL_single {M : Mem} {β : Bt} {x : Value} {d : D} (h : RepL M β #[x] [d]) : Rep M β x d := h.2 0 x d rfl rfl

theorem part_of {P : Program} {T : Tbl} (hT : T.ok P) {M : Mem} {β : Bt} {t : TypeId} {i : TI} {vs : Array Value} {xs : List D} {off : Nat} (w : World) (ht : T t = some i) (hr : RepL M β vs xs) (hfit : off + i.size ≤ xs.length)
    (hsz : i.kind.isAgg = false → i.size = 1) : ∃ x us, (part t vs off).run P w = .ok x w ∧ VOf i x us ∧ RepL M β us ((xs.drop off).take i.size) := by
  have hg := run_aggT hT ht w
  have hs := run_sizeT hT ht w
  obtain ⟨h1, h2⟩ := hr
  have hrep : RepL M β (vs.extract off (off + i.size)) ((xs.drop off).take i.size) := by
    refine ⟨by simp; omega, fun j v d hv hd => ?_⟩
    rw [List.getElem?_take, List.getElem?_drop] at hd
    split at hd
    · rw [Array.getElem?_extract] at hv
      split at hv
      · exact h2 _ v d hv hd
      · cases hv
    · cases hd
  cases hk : i.kind.isAgg with
  | true => exact ⟨.agg (vs.extract off (off + i.size)), _, by simp [part, hg, hk, hs], by simp [VOf, hk], hrep⟩
  | false =>
    have h1' := hsz hk
    have hlt : off < vs.size := by omega
    refine ⟨vs[off], vs.extract off (off + i.size), by simp [part, hg, hk, hlt], ?_, hrep⟩
    simp only [VOf, hk, Bool.false_eq_true, if_false, h1']
    apply Array.ext
    · simp; omega
    · intro k hk1 hk2
      simp at hk2
      subst hk2
      simp

theorem scalar_one {P : Program} {T : Tbl} (hT : T.ok P) {f : Nat} {t : TypeId} {i : TI} {xs ys : List D} {r : Bool} (ht : T t = some i) (h : eqD T f t xs ys = some r) (hk : i.kind.isAgg = false) : xs.length = 1 ∧ ys.length = 1 := by
  cases f with
  | zero => simp [eqD] at h
  | succ f =>
    simp only [eqD, ht] at h
    split at h
    all_goals first
      | (rename_i e; cases e; split at h <;> first | exact ⟨rfl, rfl⟩ | (cases h; done))
      | (rename_i e; cases e; simp [TK.isAgg] at hk; done)
      | (cases h; done)

theorem eqD_ok {P : Program} {T : Tbl} (hT : T.ok P) {M : Mem} {β : Bt} (w : World) : ∀ (f : Nat) (t : TypeId) (xs ys : List D) (r : Bool) (i : TI) (d : Nat) (x y : Value) (vs us : Array Value), eqD T f t xs ys = some r → f ≤ d → T t = some i →
    VOf i x vs → VOf i y us → RepL M β vs xs → RepL M β us ys → (Op.equalIn d t x y).run P w = .ok r w := by
  intro f
  induction f with
  | zero => intro t xs ys r i d x y vs us h; simp [eqD] at h
  | succ f ih =>
    intro t xs ys r i d x y vs us h hd ht hx hy rx ry
    obtain ⟨d, rfl⟩ : ∃ m, d = m + 1 := ⟨d - 1, by omega⟩
    obtain ⟨ds, h1, h2⟩ := (hT t i ht).kind
    -- parts, one behind the other
    have hparts : ∀ (ps : List (Nat × TypeId)) (r : Bool), eqParts T (eqD T f) ps xs ys = some r → ∀ (fs : List Field), fs.map (fun g => (g.offset, g.type)) = ps → (∀ g ∈ fs, g.name ≠ "_") →
        (Op.eqFields d vs us fs).run P w = .ok r w := by
      intro ps
      induction ps with
      | nil =>
        intro r h fs hfs _
        simp only [eqParts, Option.some.injEq] at h
        subst h
        cases fs with
        | nil => simp [Op.eqFields]
        | cons => simp at hfs
      | cons p ps ihp =>
        intro r h fs hfs hn
        obtain ⟨off, ft⟩ := p
        cases fs with
        | nil => simp at hfs
        | cons g fs =>
          simp only [List.map_cons, List.cons.injEq, Prod.mk.injEq] at hfs
          obtain ⟨⟨rfl, rfl⟩, hfs⟩ := hfs
          simp only [eqParts] at h
          split at h
          · rename_i fi hfi
            split at h
            · rename_i hfit
              split at h
              · rename_i ra rb ha hb
                simp only [Option.some.injEq] at h
                subst h
                have hsz : fi.kind.isAgg = false → fi.size = 1 := fun hk => by
                  have := (scalar_one hT hfi ha hk).1
                  simp at this; omega
                obtain ⟨a, va, q1, q2, q3⟩ := part_of hT w hfi rx hfit.1 hsz
                obtain ⟨b, vb, p1, p2, p3⟩ := part_of hT w hfi ry hfit.2 hsz
                have he := ih g.type _ _ ra fi d a b va vb ha (by omega) hfi q2 p2 q3 p3
                simp only [Op.eqFields, hn g (by simp), ne_eq, not_false_eq_true, if_true, Sem.run_bind, q1, p1, he, Result.andThen_ok]
                cases ra with
                | false => simp
                | true => simpa using ihp rb hb fs hfs (fun g' hg' => hn g' (by simp [hg']))
              · cases h
            · cases h
          · cases h
    have hitems : ∀ (e : TypeId) (ei : TI) (is : List Nat) (r : Bool), T e = some ei → eqParts T (eqD T f) (is.map fun k => (k * ei.size, e)) xs ys = some r →
        (Op.eqItems d e ei.size vs us is).run P w = .ok r w := by
      intro e ei is
      induction is with
      | nil =>
        intro r _ h
        simp only [List.map_nil, eqParts, Option.some.injEq] at h
        subst h
        simp [Op.eqItems]
      | cons k is ihp =>
        intro r hei h
        simp only [List.map_cons, eqParts, hei] at h
        split at h
        · rename_i hfit
          split at h
          · rename_i ra rb ha hb
            simp only [Option.some.injEq] at h
            subst h
            have hsz : ei.kind.isAgg = false → ei.size = 1 := fun hk => by
              have := (scalar_one hT hei ha hk).1
              simp at this; omega
            obtain ⟨a, va, q1, q2, q3⟩ := part_of hT w hei rx hfit.1 hsz
            obtain ⟨b, vb, p1, p2, p3⟩ := part_of hT w hei ry hfit.2 hsz
            have he := ih e _ _ ra ei d a b va vb ha (by omega) hei q2 p2 q3 p3
            simp only [Op.eqItems, Sem.run_bind, q1, p1, he, Result.andThen_ok]
            cases ra with
            | false => simp
            | true => simpa using ihp rb hei hb
          · cases h
        · cases h
    simp only [eqD, ht] at h
    split at h
    · rename_i e; cases e
      cases ds <;> simp only [kindOk] at h2
      simp only [VOf, TK.isAgg, Bool.false_eq_true, if_false] at hx hy
      subst hx; subst hy
      split at h
      · split at h
        · rename_i hkk
          simp only [Option.some.injEq] at h
          subst h; subst hkk
          have := repL_single rx; have := repL_single ry
          cases repL_single rx; cases repL_single ry
          exact run_equalIn_int w d t _ _ _ _ h1
        · cases h
      · cases h
    · rename_i e; cases e
      cases ds <;> simp only [kindOk] at h2
      simp only [VOf, TK.isAgg, Bool.false_eq_true, if_false] at hx hy
      subst hx; subst hy
      split at h
      · simp only [Option.some.injEq] at h
        subst h
        cases repL_single rx; cases repL_single ry
        exact run_equalIn_bool w d t _ _ h1
      · cases h
    · rename_i e; cases e
      cases ds <;> simp only [kindOk] at h2
      simp only [VOf, TK.isAgg, Bool.false_eq_true, if_false] at hx hy
      subst hx; subst hy
      split at h
      · simp only [Option.some.injEq] at h
        subst h
        cases repL_single rx with
        | str e1 =>
        cases repL_single ry with
        | str e2 =>
        rw [run_equalIn_string w d t _ _ h1, ByteArray.toList_eq, ByteArray.toList_eq, e1, e2]
      · cases h
    · rename_i fs _ e; cases e
      cases ds <;> simp only [kindOk] at h2
      rename_i gs
      simp only [VOf, TK.isAgg, if_true] at hx hy
      subst hx; subst hy
      have hfo : P.fieldsOf t = gs := by simp [Program.fieldsOf, h1]
      rw [run_equalIn_struct w d t vs us (by rw [hfo]; exact h1) (hT t _ ht).held, hfo]
      exact hparts fs r h gs.toList h2.symm (fun g hg => (hT t _ ht).names g (by rw [hfo]; simpa using hg))
    · rename_i n e _ e'; cases e'
      cases ds <;> simp only [kindOk] at h2
      obtain ⟨rfl, rfl⟩ := h2
      simp only [VOf, TK.isAgg, if_true] at hx hy
      subst hx; subst hy
      split at h
      · rename_i ei hei
        obtain ⟨inf, z, q1, q2, _⟩ := (hT _ ei hei).info
        rw [run_equalIn_array w d vs us h1 q1]
        have hc : P.cellsOf e = ei.size := by simp [Program.cellsOf, q1, q2]
        rw [hc]
        exact hitems _ ei _ r hei h
      · cases h
    · cases h

def aIntOp (op : BinOp) (k : IntKind) (a b : Int) : Option D :=
  match op with
  | .add => some (.int k (k.wrap (a + b)))
  | .sub => some (.int k (k.wrap (a - b)))
  | .mul => some (.int k (k.wrap (a * b)))
  | .quo => if b = 0 then none else some (.int k (k.wrap (a.tdiv b)))
  | .rem => if b = 0 then none else some (.int k (a.tmod b))
  | .and => some (.int k (k.wrap (BitVec.ofInt k.bits a &&& BitVec.ofInt k.bits b).toNat))
  | .or => some (.int k (k.wrap (BitVec.ofInt k.bits a ||| BitVec.ofInt k.bits b).toNat))
  | .xor => some (.int k (k.wrap (BitVec.ofInt k.bits a ^^^ BitVec.ofInt k.bits b).toNat))
  | .eql => some (.bool (a == b))
  | .neq => some (.bool (a != b))
  | .lss => some (.bool (decide (a < b)))
  | .leq => some (.bool (decide (a ≤ b)))
  | .gtr => some (.bool (decide (a > b)))
  | .geq => some (.bool (decide (a ≥ b)))
  | _ => none
/-- Is a slice nil? -/
def isNil : D → Option Bool
  | .lit (.slice none _ _) => some true
  | .own .. => some false
  | .sl _ (_ :: _) => some false
  | _ => none
theorem isNil_ok {M : Mem} {β : Bt} {v : Value} {d : D} {b : Bool} (h : Rep M β v d) (hb : isNil d = some b) : ∃ a n m, v = .slice a n m ∧ a.isNone = b := by
  unfold isNil at hb
  split at hb
  · cases hb; cases h; exact ⟨none, _, _, rfl, rfl⟩
  · cases hb; cases h; exact ⟨_, _, _, rfl, rfl⟩
  · cases hb
    cases h with
    | sl sz b off val hl hc hclip hs ha hm hr hk => exact ⟨_, _, _, rfl, by rw [ha (by simp)]; rfl⟩
  · cases hb
theorem run_equalIn_nil {P : Program} {t e : TypeId} (hu : P.underlying t = some (.slice e)) (d : Nat) (a : Option Addr) (n m : Nat) (w : World) : (Op.equalIn (d + 1) t (.slice a n m) (.slice none 0 0)).run P w = .ok a.isNone w := by
  cases a <;> simp [Op.equalIn, run_underlying hu w]
def aBin (T : Tbl) (op : BinOp) (t : TypeId) (x y : D) : Option D :=
  match x, y with
  | .int k a, .int k' b =>
    match op with
    | .shl => if b < 0 then none else some (.int k (k.wrap (a * 2 ^ (min b.toNat k.bits))))
    | .shr => if b < 0 then none else some (.int k (a.fdiv (2 ^ (min b.toNat k.bits))))
    | op => if k = k' then aIntOp op k a b else none
  | .str a, .str b =>
    match op with
    | .add => if a.length + b.length ≤ 1099511627776 then some (.str (a ++ b)) else none
    | .eql => some (.bool (a == b))
    | .neq => some (.bool (!(a == b)))
    | _ => none
  | .bool a, .bool b =>
    match op, T t with
    | .eql, some { kind := .bool, .. } => some (.bool (a == b))
    | .neq, some { kind := .bool, .. } => some (.bool (!(a == b)))
    | _, _ => none
  | .agg xs, .agg ys =>
    match op, T t with
    | .eql, some i => if i.kind.isAgg then (eqD T 20 t xs ys).map .bool else none
    | .neq, some i => if i.kind.isAgg then (eqD T 20 t xs ys).map fun b => .bool (!b) else none
    | _, _ => none
  | x, .lit (.slice none 0 0) =>
    match op, T t, isNil x with
    | .eql, some { kind := .slice _, .. }, some b => some (.bool b)
    | .neq, some { kind := .slice _, .. }, some b => some (.bool (!b))
    | _, _, _ => none
  | _, _ => none
theorem bin_ok {P : Program} {T : Tbl} (hT : T.ok P) {M : Mem} {β : Bt} {w : World} {op : BinOp} {t : TypeId} {ox oy : Operand} {u v : Value} {x y d : D} (hu : Rep M β u x) (hv : Rep M β v y) (ha : aBin T op t x y = some d) :
    ∃ r, (do eqGuard op t ox oy u v; binOp op t u v : Sem Value).run P w = .ok r w ∧ Rep M β r d := by
  unfold aBin at ha
  split at ha
  · rename_i k a k' b
    cases hu; cases hv
    have hg : (eqGuard op t ox oy (.int k a) (.int k' b)).run P w = .ok () w := by cases op <;> simp [eqGuard]
    simp only [Sem.run_bind, hg, Result.andThen_ok]
    cases op <;> simp only [aIntOp] at ha
    case shl => split at ha <;> (try cases ha); rename_i hb; exact ⟨_, by simp [binOp, Op.shift, hb], .int⟩
    case shr => split at ha <;> (try cases ha); rename_i hb; exact ⟨_, by simp [binOp, Op.shift, hb], .int⟩
    all_goals (split at ha <;> first | (cases ha; done) | (rename_i hk; subst hk))
    all_goals first
      | (cases ha; exact ⟨_, by simp [binOp, Op.intArith, Op.intBits, Op.intCmp], .int⟩)
      | (cases ha; exact ⟨_, by simp [binOp, Op.intArith, Op.intBits, Op.intCmp], .bool⟩)
      | (split at ha <;> first | (cases ha; done) | (rename_i hb; cases ha; exact ⟨_, by simp [binOp, Op.intDiv, hb], .int⟩))
  · rename_i a b
    cases hu with
    | str e1 =>
    cases hv with
    | str e2 =>
    rename_i s1 s2
    have hg : (eqGuard op t ox oy (.string s1) (.string s2)).run P w = .ok () w := by cases op <;> simp [eqGuard]
    simp only [Sem.run_bind, hg, Result.andThen_ok]
    cases op <;> simp only at ha <;> try (cases ha; done)
    case add =>
      split at ha
      · rename_i hl
        cases ha
        have h1 : s1.size = a.length := by rw [← e1]; simp
        have h2 : s2.size = b.length := by rw [← e2]; simp
        refine ⟨.string (s1 ++ s2), by simp [binOp, Op.stringOp]; omega, .str ?_⟩
        simp [ByteArray.data_append, e1, e2]
      · cases ha
    case eql => cases ha; exact ⟨_, by simp [binOp, Op.stringOp, ByteArray.toList_eq, e1, e2], .bool⟩
    case neq => cases ha; exact ⟨_, by simp [binOp, Op.stringOp, ByteArray.toList_eq, e1, e2], .bool⟩
  · rename_i a b
    cases hu; cases hv
    have hg : (eqGuard op t ox oy (.bool a) (.bool b)).run P w = .ok () w := by cases op <;> simp [eqGuard]
    simp only [Sem.run_bind, hg, Result.andThen_ok]
    split at ha
    · rename_i hb; cases ha
      obtain ⟨ds, h1, h2⟩ := (hT t _ hb).kind
      cases ds <;> simp only [kindOk] at h2
      have := run_equalIn_bool (P := P) w 9999 t a b h1
      exact ⟨.bool (a == b), by simp [binOp, Op.equal, Op.maxDepth, this], .bool⟩
    · rename_i hb; cases ha
      obtain ⟨ds, h1, h2⟩ := (hT t _ hb).kind
      cases ds <;> simp only [kindOk] at h2
      have := run_equalIn_bool (P := P) w 9999 t a b h1
      exact ⟨.bool (!(a == b)), by simp [binOp, Op.equal, Op.maxDepth, this], .bool⟩
    · cases ha
  · rename_i xs ys
    cases hu with
    | agg l1 r1 k1 =>
    cases hv with
    | agg l2 r2 k2 =>
    rename_i vs us
    have main : ∀ i r, T t = some i → i.kind.isAgg = true → eqD T 20 t xs ys = some r → (Op.equalIn 10000 t (.agg vs) (.agg us)).run P w = .ok r w := fun i r hi hk he =>
      eqD_ok hT w 20 t xs ys r i 10000 _ _ vs us he (by omega) hi (by simp [VOf, hk]) (by simp [VOf, hk]) ⟨l1, r1⟩ ⟨l2, r2⟩
    split at ha
    · rename_i i hi
      split at ha
      · rename_i hk
        simp only [Option.map_eq_some_iff] at ha
        obtain ⟨r, hr, rfl⟩ := ha
        have hg : (eqGuard .eql t ox oy (.agg vs) (.agg us)).run P w = .ok () w := run_eqGuard_agg w _ _ _ _ _ _ (hT t i hi).guard
        refine ⟨.bool r, ?_, .bool⟩
        simp only [Sem.run_bind, hg, Result.andThen_ok]
        rw [run_eql_struct, main i r hi hk hr]
        rfl
      · cases ha
    · rename_i i hi
      split at ha
      · rename_i hk
        simp only [Option.map_eq_some_iff] at ha
        obtain ⟨r, hr, rfl⟩ := ha
        have hg : (eqGuard .neq t ox oy (.agg vs) (.agg us)).run P w = .ok () w := run_eqGuard_agg w _ _ _ _ _ _ (hT t i hi).guard
        refine ⟨.bool (!r), ?_, .bool⟩
        simp only [Sem.run_bind, hg, Result.andThen_ok]
        rw [run_neq_struct, main i r hi hk hr]
        rfl
      · cases ha
    · cases ha
  · cases hv
    split at ha
    · rename_i b hb hn
      cases ha
      obtain ⟨a, n, m, rfl, rfl⟩ := isNil_ok hu hn
      obtain ⟨ds, h1, h2⟩ := (hT t _ hb).kind
      cases ds <;> simp only [kindOk] at h2
      have := run_equalIn_nil (P := P) h1 9999 a n m w
      exact ⟨.bool a.isNone, by simp [eqGuard, binOp, Op.equal, Op.maxDepth, this], .bool⟩
    · rename_i b hb hn
      cases ha
      obtain ⟨a, n, m, rfl, rfl⟩ := isNil_ok hu hn
      obtain ⟨ds, h1, h2⟩ := (hT t _ hb).kind
      cases ds <;> simp only [kindOk] at h2
      have := run_equalIn_nil (P := P) h1 9999 a n m w
      exact ⟨.bool (!a.isNone), by simp [eqGuard, binOp, Op.equal, Op.maxDepth, this], .bool⟩
    · cases ha
  · cases ha

def aUn (op : UnOp) (x : D) : Option D :=
  match op, x with
  | .not, .bool b => some (.bool (!b))
  | .neg, .int k n => some (.int k (k.wrap (0 - n)))
  | .xor, .int k n => some (.int k (k.wrap (BitVec.ofInt k.bits (if k.signed then -1 else k.max) ^^^ BitVec.ofInt k.bits n).toNat))
  | _, _ => none
theorem un_ok {P : Program} {M : Mem} {β : Bt} {w : World} {op : UnOp} {u : Value} {x d : D} (hu : Rep M β u x) (ha : aUn op x = some d) :
    ∃ r, (Op.unary op u).run P w = .ok r w ∧ Rep M β r d := by
  unfold aUn at ha
  split at ha <;> (try (cases ha; done)) <;> cases hu <;> cases ha
  · exact ⟨_, by simp [Op.unary], .bool⟩
  · exact ⟨_, by simp [Op.unary, Op.intArith], .int⟩
  · exact ⟨_, by simp [Op.unary, Op.intBits], .int⟩

def aBytes : List (List D) → Option (List UInt8)
  | [] => some []
  | [.int .u8 n] :: l => (aBytes l).map (UInt8.ofNat n.toNat :: ·)
  | _ => none
/-- Slices, read whole. -/
theorem elems_ok {M : Mem} {β : Bt} {h : List Blk} {w : World} {v : Value} {x : D} {l : List (List D)} (H : HOk M β h w) (hv : Rep M β v x) (ha : aElems x h = some l) :
    ∃ (a : Option Addr) (cap sz b off : Nat) (val : Nat → Nat → Value), v = .slice a l.length cap ∧ l.length ≤ cap ∧ (∀ e ∈ l, e.length = sz) ∧ (l ≠ [] → a = some ⟨b, off, none⟩) ∧
      (∀ i j, i < l.length → j < sz → w.cell? ⟨b, off + i * sz + j, none⟩ = some (val i j)) ∧ (∀ (i j : Nat) e d, l[i]? = some e → e[j]? = some d → Rep M β (val i j) d) ∧ (∀ e ∈ l, ∀ d ∈ e, d.cell = true) := by
  unfold aElems at ha
  split at ha
  · simp only [Option.some.injEq] at ha
    subst ha
    cases hv with
    | sl sz b off val hl hcap hclip hs hn hm hr hk =>
    rename_i a len cap
    subst hl
    exact ⟨a, cap, sz, b, off, val, rfl, hcap, hs, hn, fun i j h1 h2 => H.cell (hm i j h1 h2), fun i j e d h1 h2 => (hr i j e d h1 h2).mono (Mle.refl M) (Ole.nil β), hk⟩
  · rename_i id off len clip
    split at ha
    · rename_i elems wr hb
      split at ha
      · rename_i hfit
        simp only [Option.some.injEq] at ha
        subst ha
        cases hv with
        | own ho hcap hclip hn =>
        rename_i cap o
        obtain ⟨cs, ety, fz, g1, g2, g3, g4, g5, g6, g7⟩ := H.blk id _ o hb ho
        have hlen : ((elems.drop off).take len).length = len := by simp; omega
        have hget : ∀ (i : Nat) e, ((elems.drop off).take len)[i]? = some e → elems[off + i]? = some e := fun i e he => by
          rw [List.getElem?_take] at he
          split at he
          · rwa [List.getElem?_drop] at he
          · cases he
        have hmem : ∀ e ∈ (elems.drop off).take len, e ∈ elems := fun e he => List.mem_of_mem_drop (List.mem_of_mem_take he)
        refine ⟨some ⟨o.b, off * o.sz, none⟩, cap, o.sz, o.b, off * o.sz, fun i j => cs.getD ((off + i) * o.sz + j) default, by rw [hlen], by rw [hlen]; exact hcap, fun e he => g5 e (hmem e he), fun _ => rfl,
          fun i j h1 h2 => ?_, fun i j e d h1 h2 => ?_, fun e he d hd => ?_⟩
        · rw [hlen] at h1
          have hlt : off + i < elems.length := by omega
          have he : elems[off + i]? = some elems[off + i] := by simp [hlt]
          have hjl : j < (elems[off + i]).length := by rw [g5 _ (List.getElem_mem hlt)]; exact h2
          obtain ⟨_, v, hv, _⟩ := g6 (off + i) j _ (elems[off + i][j]) he (by simp [hjl])
          simp only [World.cell?, g1, Option.isSome_none, Bool.false_eq_true, if_false]
          rw [show off * o.sz + i * o.sz + j = (off + i) * o.sz + j by rw [Nat.add_mul], hv]
          simp [Array.getD_eq_getD_getElem?, hv]
        · obtain ⟨_, v, hv, hr⟩ := g6 (off + i) j e d (hget i e h1) h2
          simpa [Array.getD_eq_getD_getElem?, hv] using hr
        · obtain ⟨i, hi⟩ := List.mem_iff_getElem?.1 he
          obtain ⟨j, hj⟩ := List.mem_iff_getElem?.1 hd
          exact (g6 (off + i) j e d (hget i e hi) hj).1
      · cases ha
    · cases ha
  · cases ha

theorem flatten_get {α : Type} {sz : Nat} (hsz : 0 < sz) : ∀ (l : List (List α)) (k : Nat) (d : α), (∀ e ∈ l, e.length = sz) → l.flatten[k]? = some d → ∃ e, l[k / sz]? = some e ∧ e[k % sz]? = some d
  | [], k, d, _, h => by simp at h
  | e :: l, k, d, hs, h => by
    have he : e.length = sz := hs e (by simp)
    rw [List.flatten_cons] at h
    by_cases hk : k < sz
    · rw [List.getElem?_append_left (by omega)] at h
      exact ⟨e, by rw [Nat.div_eq_of_lt hk]; rfl, by rw [Nat.mod_eq_of_lt hk]; exact h⟩
    · rw [List.getElem?_append_right (by omega), he] at h
      obtain ⟨e', h1, h2⟩ := flatten_get hsz l (k - sz) d (fun e he => hs e (by simp [he])) h
      refine ⟨e', ?_, ?_⟩
      · have : k / sz = (k - sz) / sz + 1 := by
          rw [← Nat.add_div_right _ hsz]
          congr 1
          omega
        rw [this]
        simpa using h1
      · rw [Nat.mod_eq_sub_mod (by omega)]
        exact h2
theorem flatten_len {α : Type} {sz : Nat} : ∀ (l : List (List α)), (∀ e ∈ l, e.length = sz) → l.flatten.length = l.length * sz
  | [], _ => by simp
  | e :: l, hs => by
    rw [List.flatten_cons, List.length_append, flatten_len l (fun e he => hs e (by simp [he])), hs e (by simp), List.length_cons, Nat.add_mul]
    omega

/-- The same, cell by cell. -/
theorem elems_flat {M : Mem} {β : Bt} {h : List Blk} {w : World} {v : Value} {x : D} {l : List (List D)} (H : HOk M β h w) (hv : Rep M β v x) (ha : aElems x h = some l) {n : Nat} (hn : headOk l n = true) :
    ∃ (a : Option Addr) (cap b off : Nat) (vs : List Value), v = .slice a l.length cap ∧ l.length ≤ cap ∧ (∀ e ∈ l, e.length = n) ∧ (l ≠ [] → a = some ⟨b, off, none⟩) ∧ vs.length = l.length * n ∧
      (∀ (j : Nat) u, vs[j]? = some u → w.cell? ⟨b, off + j, none⟩ = some u) ∧ RepL M β vs.toArray l.flatten ∧ (∀ e ∈ l, ∀ d ∈ e, d.cell = true) := by
  obtain ⟨a, cap, sz, b, off, val, h1, h2, h3, h4, h5, h6, h7⟩ := elems_ok H hv ha
  have hall : ∀ e ∈ l, e.length = n := fun e he => by
    have hne : l ≠ [] := by rintro rfl; simp at he
    rw [← headOk_len hn h3 hne]; exact h3 e he
  have hval : ∀ k, k < l.length * n → k / n < l.length ∧ k % n < n ∧ k = k / n * n + k % n := fun k hk => by
    have hn0 : 0 < n := by
      rcases Nat.eq_zero_or_pos n with r | r
      · subst r; omega
      · exact r
    refine ⟨(Nat.div_lt_iff_lt_mul hn0).2 hk, Nat.mod_lt _ hn0, ?_⟩
    have := Nat.div_add_mod k n
    rw [Nat.mul_comm] at this
    exact this.symm
  refine ⟨a, cap, b, off, (List.range (l.length * n)).map fun k => val (k / n) (k % n), h1, h2, hall, h4, by simp, fun j u hu => ?_, ⟨?_, fun j u d hu hd => ?_⟩, h7⟩
  · simp only [List.getElem?_map, Option.map_eq_some_iff] at hu
    obtain ⟨k, hk, rfl⟩ := hu
    obtain ⟨hlt, rfl⟩ := range_get hk
    obtain ⟨q1, q2, q3⟩ := hval j hlt
    have hne : l ≠ [] := by rintro rfl; simp at hlt
    have hsz := headOk_len hn h3 hne
    have := h5 (j / n) (j % n) q1 (by omega)
    rw [hsz, show off + j / n * n + j % n = off + j by omega] at this
    exact this
  · simp [flatten_len l hall]
  · have hlt : j < l.length * n := by
      rw [← flatten_len l hall]; exact (List.getElem?_eq_some_iff.1 hd).1
    simp only [List.getElem?_toArray, List.getElem?_map, List.getElem?_range hlt, Option.map_some, Option.some.injEq] at hu
    subst hu
    have hn0 : 0 < n := by
      rcases Nat.eq_zero_or_pos n with r | r
      · subst r; omega
      · exact r
    obtain ⟨e, he1, he2⟩ := flatten_get hn0 l j d hall hd
    exact h6 _ _ e d he1 he2

/-- Conversions that make no memory. -/
def aConv (T : Tbl) (src dst : TypeId) (x : D) (h : List Blk) : Option D :=
  match T src, T dst, x with
  | some _, some { kind := .int k, .. }, .int _ n => some (.int k (k.wrap n))
  | some { kind := .str, .. }, some { kind := .str, .. }, .str s => some (.str s)
  | some { kind := .slice e, .. }, some { kind := .str, .. }, x =>
    match T e, aElems x h with
    | some { kind := .int .u8, .. }, some l => (aBytes l).map .str
    | _, _ => none
  | _, _, _ => none
end Go.Xa
