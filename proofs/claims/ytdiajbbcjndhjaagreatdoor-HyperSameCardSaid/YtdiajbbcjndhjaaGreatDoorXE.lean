/- Cuts of strings, slices and arrays; blocks that do not turn any more. -/
import Derived.Test.YtdiajbbcjndhjaaGreatDoorXD
namespace Go.Xa
open Go.RowKit

def D.pure : D → Bool
  | .int _ _ | .bool _ | .str _ | .sl _ _ | .lit _ | .pptr _ => true
  | _ => false
theorem Rep.pure {M : Mem} {β β' : Bt} {v : Value} {d : D} (h : Rep M β v d) (hp : d.pure = true) : Rep M β' v d := by
  cases h with
  | int => exact .int
  | bool => exact .bool
  | str h => exact .str h
  | lit => exact .lit
  | sl sz b off val hl hc hclip hs ha hm hr hk => exact .sl sz b off val hl hc hclip hs ha hm hr hk
  | pptr val hm hr hk => exact .pptr val hm hr hk
  | _ => simp [D.pure] at hp

/-- A block does not turn any more. -/
def Mem.with (M : Mem) (b : Nat) (o : Option Obj) : Mem := fun k => if k = b then o else M k
theorem HOk.freeze {M : Mem} {β : Bt} {h : List Blk} {w : World} (H : HOk M β h w) {id : Nat} {o : Own} {elems : List (List D)} {wr : Bool} (hx : h[id]? = some (.cells elems wr)) (ho : β id = some o) :
    ∃ M', HOk M' β (h.set id (.cells elems false)) w ∧ Good M β w M' β w ∧ M' o.b = w.heap[o.b]? := by
  obtain ⟨cs, ety, fz, h1, h2, h3, h4, h5, h6, h7⟩ := H.blk id _ o hx ho
  have hid : id < h.length := (List.getElem?_eq_some_iff.1 hx).1
  have hle : Mle M (M.with o.b w.heap[o.b]?) := fun b x hb => by
    unfold Mem.with
    split
    · rename_i e; subst e; exact H.agree _ x hb
    · exact hb
  have hlive : ∀ (i : Nat) (y : Blk), (h.set id (.cells elems false))[i]? = some y → y.live = true → ∃ y', h[i]? = some y' ∧ y'.live = true := by
    intro i y a c
    by_cases hi : id = i
    · subst hi; exact ⟨_, hx, rfl⟩
    · rw [List.getElem?_set_ne hi] at a; exact ⟨y, a, c⟩
  refine ⟨M.with o.b w.heap[o.b]?, ⟨fun j y p a b => ?_, fun j y a c => ?_, fun j hj => H.ge j (by simpa using hj), fun i j y z p q a b c d e f g => ?_, fun b x hb => ?_, H.lt⟩,
    ⟨hle, Ole.refl β, WExt.refl β w, fun _ h => .inl h, fun b hb => ?_⟩, by simp [Mem.with]⟩
  · by_cases hj : id = j
    · subst hj
      rw [ho] at b
      rw [List.getElem?_set_self hid] at a
      cases a; cases b
      exact ⟨cs, ety, fz, h1, h2, h3, h4, h5, fun i j e d a b => let ⟨c, v, hv, hr⟩ := h6 i j e d a b; ⟨c, v, hv, hr.mono hle (Ole.refl β)⟩, by simp [Mem.with]⟩
    · rw [List.getElem?_set_ne hj] at a
      by_cases hl : y.live = true
      · refine (H.blk j y p a b).mono hle (Ole.refl β) ?_
        have : p.b ≠ o.b := fun e => hj (H.inj id j _ y o p hx a rfl hl ho b e.symm)
        simp [Mem.with, this]
      · cases y <;> simp [Blk.live] at hl
        trivial
  · obtain ⟨y', h1, h2⟩ := hlive j y a c
    exact H.has j y' h1 h2
  · obtain ⟨y', h1, h2⟩ := hlive i y a c
    obtain ⟨z', k1, k2⟩ := hlive j z b d
    exact H.inj i j y' z' p q h1 k1 h2 k2 e f g
  · unfold Mem.with at hb
    split at hb
    · rename_i e; subst e; exact hb
    · exact H.agree b x hb
  · unfold Mem.with at hb
    split at hb
    · rename_i e; exact .inr (.inl ⟨id, o, ho, e.symm⟩)
    · exact .inl hb

/-- A bound of a cut. -/
def aBound (x : Option D) (dflt most : Nat) : Option Nat :=
  match x with
  | none => some dflt
  | some (.int _ k) => if 0 ≤ k ∧ k ≤ most then some k.toNat else none
  | _ => none
def RepO (M : Mem) (β : Bt) : Option Value → Option D → Prop
  | none, none => True
  | some v, some d => Rep M β v d
  | _, _ => False
theorem bound_ok {M : Mem} {β : Bt} {v : Value} {x : D} {dflt most most' n : Nat} (hv : Rep M β v x) (ha : aBound (some x) dflt most = some n) (hm : most ≤ most') (P : Program) (w : World) (c : BoundsCode) :
    (Instr.sliceBound v most' c).run P w = .ok n w ∧ n ≤ most := by
  unfold aBound at ha
  split at ha
  · rename_i e; cases e
  · rename_i k kk e
    cases e
    cases hv
    split at ha
    · rename_i h
      simp only [Option.some.injEq] at ha
      subst ha
      have : 0 ≤ kk ∧ kk ≤ (most' : Int) := by omega
      exact ⟨by simp [Instr.sliceBound, asIntOf, this], by omega⟩
    · cases ha
  · cases ha

theorem run_bounds {M : Mem} {β : Bt} {lo hi mx : Option Value} {dlo dhi dmx : Option D} {len cap l hh m : Nat} {isS : Bool} (hlo : RepO M β lo dlo) (hhi : RepO M β hi dhi) (hmx : RepO M β mx dmx) (hlc : len ≤ cap)
    (hm : aBound dmx cap len = some m) (h1 : aBound dhi len (if dmx.isSome then m else len) = some hh) (h2 : aBound dlo 0 hh = some l) (hmh : dmx.isSome = true → dhi.isSome = true) (P : Program) (w : World) :
    (Instr.sliceBounds isS len cap lo hi mx).run P w = .ok (l, hh, m) w ∧ l ≤ hh ∧ hh ≤ len ∧ hh ≤ m ∧ m ≤ cap ∧ (dmx = none → m = cap) ∧ (dmx.isSome = true → m ≤ len) := by
  unfold Instr.sliceBounds
  cases mx with
  | none =>
    cases dmx with
    | some => exact hmx.elim
    | none =>
    simp only [aBound, Option.some.injEq] at hm
    subst hm
    simp only [Option.isSome_none, Bool.false_eq_true, if_false] at h1
    have hH : ∃ _ : True, (match hi with | some v => Instr.sliceBound v cap (if isS then .sliceAcap else .sliceAlen) | none => Pure.pure len : Sem Nat).run P w = .ok hh w ∧ hh ≤ len := by
      cases hi with
      | none =>
        cases dhi with
        | some => exact hhi.elim
        | none => simp only [aBound, Option.some.injEq] at h1; subst h1; exact ⟨trivial, rfl, Nat.le_refl _⟩
      | some v =>
        cases dhi with
        | none => exact hhi.elim
        | some d => exact ⟨trivial, bound_ok hhi h1 hlc P w _⟩
    obtain ⟨_, hH1, hH2⟩ := hH
    have hL : ∃ _ : True, (match lo with | some v => Instr.sliceBound v hh .sliceB | none => Pure.pure 0 : Sem Nat).run P w = .ok l w ∧ l ≤ hh := by
      cases lo with
      | none =>
        cases dlo with
        | some => exact hlo.elim
        | none => simp only [aBound, Option.some.injEq] at h2; subst h2; exact ⟨trivial, rfl, Nat.zero_le _⟩
      | some v =>
        cases dlo with
        | none => exact hlo.elim
        | some d => exact ⟨trivial, bound_ok hlo h2 (Nat.le_refl _) P w _⟩
    obtain ⟨_, hL1, hL2⟩ := hL
    refine ⟨?_, hL2, hH2, by omega, Nat.le_refl _, fun _ => rfl, by simp⟩
    cases hi <;> cases lo <;> simp_all
  | some mv =>
    cases dmx with
    | none => exact hmx.elim
    | some dm =>
    obtain ⟨hM1, hM2⟩ := bound_ok hmx hm hlc P w (if isS then .slice3Acap else .slice3Alen)
    simp only [Option.isSome_some, if_true] at h1
    cases hi with
    | none =>
      cases dhi with
      | some => exact hhi.elim
      | none => simp at hmh
    | some v =>
      cases dhi with
      | none => exact hhi.elim
      | some d =>
      obtain ⟨hH1, hH2⟩ := bound_ok hhi h1 (Nat.le_refl _) P w .slice3B
      have hL : ∃ _ : True, (match lo with | some v => Instr.sliceBound v hh .slice3C | none => Pure.pure 0 : Sem Nat).run P w = .ok l w ∧ l ≤ hh := by
        cases lo with
        | none =>
          cases dlo with
          | some => exact hlo.elim
          | none => simp only [aBound, Option.some.injEq] at h2; subst h2; exact ⟨trivial, rfl, Nat.zero_le _⟩
        | some v =>
          cases dlo with
          | none => exact hlo.elim
          | some d => exact ⟨trivial, bound_ok hlo h2 (Nat.le_refl _) P w _⟩
      obtain ⟨_, hL1, hL2⟩ := hL
      refine ⟨?_, hL2, by omega, hH2, by omega, by simp, fun _ => hM2⟩
      cases lo <;> simp_all

/-- The size of the elements is the type's. -/
def headOk (l : List (List D)) (n : Nat) : Bool :=
  match l with
  | [] => true
  | c :: _ => c.length == n

def aSlice (T : Tbl) (t : TypeId) (x : D) (lo hi mx : Option D) (h : List Blk) : Option (D × List Blk) :=
  match T t, x with
  | some { kind := .str, .. }, .str s =>
    if mx.isSome then none else
    match aBound hi s.length s.length with
    | some hh => match aBound lo 0 hh with
      | some l => some (.str ((s.drop l).take (hh - l)), h)
      | none => none
    | none => none
  | some { kind := .slice e, .. }, .sl clip l =>
    if mx.isSome && !hi.isSome then none else
    match T e, aBound mx l.length l.length with
    | some ei, some m =>
      match aBound hi l.length (if mx.isSome then m else l.length) with
      | some hh => match aBound lo 0 hh with
        | some k => if k = 0 ∨ headOk l ei.size then some (.sl (if mx.isSome then m == hh else clip && hh == l.length) ((l.drop k).take (hh - k)), h) else none
        | none => none
      | none => none
    | _, _ => none
  | some { kind := .slice e, .. }, .own id off len clip =>
    if mx.isSome && !hi.isSome then none else
    match T e, aBound mx len len, h[id]? with
    | some ei, some m, some (.cells elems _) =>
      match aBound hi len (if mx.isSome then m else len) with
      | some hh => match aBound lo 0 hh with
        | some k =>
          if k = 0 then some (.own id off hh (if mx.isSome then m == hh else clip && hh == len), h)
          else if k = hh then some (.sl false [], h)
          else if headOk elems ei.size && !elems.isEmpty then some (.own id (off + k) (hh - k) (if mx.isSome then m == hh else clip && hh == len), h) else none
        | none => none
      | none => none
    | _, _, _ => none
  | some { kind := .arr n e, .. }, .ptr id i j =>
    match T e, h[id]?, lo, hi, mx with
    | some ei, some (.cells elems _), none, none, none =>
      match elems[i]? with
      | some c =>
        if j + n * ei.size ≤ c.length ∧ elems.all (fun e => e.all D.pure) = true ∧ ei.size = 1 then
          some (.sl true ((List.range n).map fun k => (c.drop (j + k * ei.size)).take ei.size), h.set id (.cells elems false))
        else none
      | none => none
    | _, _, _, _, _ => none
  | _, _ => none

theorem aBound_some {d : D} {a b most : Nat} : aBound (some d) a most = aBound (some d) b most := by cases d <;> rfl
theorem headOk_len {l : List (List D)} {n sz : Nat} (h : headOk l n = true) (hs : ∀ e ∈ l, e.length = sz) (hne : l ≠ []) : sz = n := by
  cases l with
  | nil => exact absurd rfl hne
  | cons c l => simp only [headOk, beq_iff_eq] at h; rw [← h]; exact (hs c (by simp)).symm

theorem run_sliceAt_slice {P : Program} {T : Tbl} (hT : T.ok P) {t e : TypeId} {sz by_ : Nat} {z : List D} {ei : TI} (ht : T t = some { size := sz, bytes := by_, kind := .slice e, zero := z }) (he : T e = some ei) (w : World)
    {a : Option Addr} {len cap l hh m : Nat} {lo hi mx : Option Value} (hb : (Instr.sliceBounds true len cap lo hi mx).run P w = .ok (l, hh, m) w) :
    (Instr.sliceAt t (.slice a len cap) lo hi mx).run P w = .ok (.slice (if m = l then a else a.map (·.add (l * ei.size))) (hh - l) (m - l)) w := by
  obtain ⟨ds, h1, h2⟩ := run_underT hT ht w
  cases ds <;> simp only [kindOk] at h2
  subst h2
  have hs := run_sizeT hT he w
  simp [Instr.sliceAt, Instr.slice, h1, hb, hs]

theorem slice_ok {P : Program} {ν : Nat} {T : Tbl} (hT : T.ok P) {M : Mem} {β : Bt} {h h' : List Blk} {w : World} {t : TypeId} {v : Value} {lo hi mx : Option Value} {x d : D} {dlo dhi dmx : Option D} (H : HOk M β h w) (hv : Rep M β v x)
    (hlo : RepO M β lo dlo) (hhi : RepO M β hi dhi) (hmx : RepO M β mx dmx) (ha : aSlice T t x dlo dhi dmx h = some (d, h')) : OpOk P ν (Instr.sliceAt t v lo hi mx) M β w d h' := by
  unfold aSlice at ha
  split at ha
  · rename_i s ht
    split at ha
    · cases ha
    · rename_i hmn
      split at ha
      · rename_i hh e1
        split at ha
        · rename_i l e2
          simp only [Option.some.injEq, Prod.mk.injEq] at ha
          obtain ⟨rfl, rfl⟩ := ha
          cases hv with
          | str hs =>
          rename_i bs
          cases dmx with
          | some => simp at hmn
          | none =>
          cases mx with
          | some => exact hmx.elim
          | none =>
          have hlen : s.length = bs.size := by rw [← hs]; simp
          rw [hlen] at e1
          obtain ⟨hr, g1, g2, _⟩ := run_bounds (M := M) (β := β) (mx := none) (dmx := none) (isS := false) hlo hhi trivial (Nat.le_refl bs.size) rfl (by simpa using e1) e2 (by simp) P w
          obtain ⟨ds, h1, h2⟩ := run_underT hT ht w
          cases ds <;> simp only [kindOk] at h2
          refine OpOk.pure H (v := .string (bs.extract l hh)) (by simp [Instr.sliceAt, Instr.slice, h1, hr]) (.str ?_)
          rw [← hs]
          simp [List.drop_take]
        · cases ha
      · cases ha
  · rename_i e _ clip l ht
    split at ha
    · cases ha
    · rename_i hmh
      split at ha
      · rename_i ei m he hm
        split at ha
        · rename_i hh e1
          split at ha
          · rename_i k e2
            split at ha
            · rename_i hk
              simp only [Option.some.injEq, Prod.mk.injEq] at ha
              obtain ⟨rfl, rfl⟩ := ha
              cases hv with
              | sl sz b off val hl hcap hclip hs hn hmm hr hk' =>
              rename_i a len cap
              have hb : ∃ m', (Instr.sliceBounds true len cap lo hi mx).run P w = .ok (k, hh, m') w ∧ k ≤ hh ∧ hh ≤ len ∧ hh ≤ m' ∧ m' ≤ cap ∧ (dmx = none → m' = cap) ∧ (dmx.isSome = true → m' = m) := by
                cases dmx with
                | none =>
                  obtain ⟨r1, r2, r3, r4, r5, r6, _⟩ := run_bounds (isS := true) hlo hhi hmx hcap (m := cap) rfl (by simpa [hl] using e1) e2 (by simp) P w
                  exact ⟨cap, r1, r2, r3, r4, r5, r6, by simp⟩
                | some dm =>
                  have hm' : aBound (some dm) cap len = some m := by rw [hl] at hm; exact aBound_some.trans hm
                  obtain ⟨r1, r2, r3, r4, r5, r6, _⟩ := run_bounds (isS := true) hlo hhi hmx hcap (m := m) hm' (by rw [hl] at e1; simpa using e1) e2 (fun _ => by cases dhi <;> simp_all) P w
                  exact ⟨m, r1, r2, r3, r4, r5, by simp, fun _ => rfl⟩
              obtain ⟨m', r1, r2, r3, r4, r5, r6, r7⟩ := hb
              refine OpOk.pure H (run_sliceAt_slice hT ht he w r1) ?_
              refine .sl sz b (off + k * sz) (fun i j => val (k + i) j) (by simp; omega) (by omega) ?_ (fun c hc => hs c (List.mem_of_mem_drop (List.mem_of_mem_take hc))) ?_ ?_ ?_ (fun c hc => hk' c (List.mem_of_mem_drop (List.mem_of_mem_take hc)))
              · intro hc
                cases dmx with
                | none =>
                  simp only [Option.isSome_none, Bool.false_eq_true, if_false, Bool.and_eq_true, beq_iff_eq] at hc
                  have := hclip hc.1
                  have := r6 rfl
                  omega
                | some dm =>
                  simp only [Option.isSome_some, if_true, beq_iff_eq] at hc
                  have := r7 rfl
                  omega
              · intro hne
                have hlt : k < hh := by
                  rcases Nat.lt_or_ge k hh with g | g
                  · exact g
                  · exact absurd (by simp; omega) hne
                have hlne : l ≠ [] := by rintro rfl; simp at hl; omega
                rw [if_neg (by omega), hn hlne]
                rcases hk with rfl | hk
                · simp [Addr.add]
                · rw [headOk_len hk hs hlne]
                  simp [Addr.add_lit]
              · intro i j hi' hj
                rw [show off + k * sz + i * sz + j = off + (k + i) * sz + j by rw [Nat.add_mul]; omega]
                exact hmm (k + i) j (by omega) hj
              · intro i j c d hc hd
                rw [List.getElem?_take] at hc
                split at hc
                · rw [List.getElem?_drop] at hc
                  exact hr (k + i) j c d hc hd
                · cases hc
            · cases ha
          · cases ha
        · cases ha
      · cases ha
  · rename_i e _ id off len clip ht
    split at ha
    · cases ha
    · rename_i hmh
      split at ha
      · rename_i ei m elems wr he hm hblk
        split at ha
        · rename_i hh e1
          split at ha
          · rename_i k e2
            cases hv with
            | own ho hcap hclip hn =>
            rename_i cap o
            have hb : ∃ m', (Instr.sliceBounds true len cap lo hi mx).run P w = .ok (k, hh, m') w ∧ k ≤ hh ∧ hh ≤ len ∧ hh ≤ m' ∧ m' ≤ cap ∧ (dmx = none → m' = cap) ∧ (dmx.isSome = true → m' = m) := by
              cases dmx with
              | none =>
                obtain ⟨r1, r2, r3, r4, r5, r6, _⟩ := run_bounds (isS := true) hlo hhi hmx hcap (m := cap) rfl (by simpa using e1) e2 (by simp) P w
                exact ⟨cap, r1, r2, r3, r4, r5, r6, by simp⟩
              | some dm =>
                have hm' : aBound (some dm) cap len = some m := aBound_some.trans hm
                obtain ⟨r1, r2, r3, r4, r5, r6, _⟩ := run_bounds (isS := true) hlo hhi hmx hcap (m := m) hm' (by simpa using e1) e2 (fun _ => by cases dhi <;> simp_all) P w
                exact ⟨m, r1, r2, r3, r4, r5, by simp, fun _ => rfl⟩
            obtain ⟨m', r1, r2, r3, r4, r5, r6, r7⟩ := hb
            have hrun := run_sliceAt_slice hT ht he w (a := some ⟨o.b, off * o.sz, none⟩) r1
            have hcl : ((if dmx.isSome then m == hh else clip && hh == len) = true) → m' = hh := by
              intro hc
              cases dmx with
              | none =>
                simp only [Option.isSome_none, Bool.false_eq_true, if_false, Bool.and_eq_true, beq_iff_eq] at hc
                have := hclip hc.1
                have := r6 rfl
                omega
              | some dm =>
                simp only [Option.isSome_some, if_true, beq_iff_eq] at hc
                have := r7 rfl
                omega
            split at ha
            · rename_i hk0
              simp only [Option.some.injEq, Prod.mk.injEq] at ha
              obtain ⟨rfl, rfl⟩ := ha
              subst hk0
              refine OpOk.pure H hrun ?_
              have hadd : (if m' = 0 then some (⟨o.b, off * o.sz, none⟩ : Addr) else (some (⟨o.b, off * o.sz, none⟩ : Addr)).map (·.add (0 * ei.size))) = some ⟨o.b, off * o.sz, none⟩ := by
                simp [Addr.add_lit]
              rw [hadd]
              exact .own ho (by omega) (fun hc => by have := hcl hc; omega) (by omega)
            · rename_i hk0
              split at ha
              · rename_i hkh
                simp only [Option.some.injEq, Prod.mk.injEq] at ha
                obtain ⟨rfl, rfl⟩ := ha
                subst hkh
                exact OpOk.pure H hrun (.sl 0 0 0 (fun _ _ => default) (by simp) (by omega) (by simp) (by simp) (by simp) (by simp) (by simp) (by simp))
              · rename_i hkh
                split at ha
                · rename_i hhead
                  simp only [Bool.and_eq_true, Bool.not_eq_true', List.isEmpty_eq_false_iff] at hhead
                  simp only [Option.some.injEq, Prod.mk.injEq] at ha
                  obtain ⟨rfl, rfl⟩ := ha
                  obtain ⟨cs, ety, fz, g1, g2, g3, g4, g5, g6, g7⟩ := H.blk id _ o hblk ho
                  have hsz := headOk_len hhead.1 g5 hhead.2
                  refine OpOk.pure H hrun ?_
                  rw [if_neg (by omega)]
                  simp only [Option.map_some, Addr.add_lit, ← hsz, ← Nat.add_mul]
                  exact .own ho (by omega) (fun hc => by have := hcl hc; omega) (by omega)
                · cases ha
          · cases ha
        · cases ha
      · cases ha
  · rename_i n e _ id i j ht
    split at ha
    · rename_i ei elems wr he hblk
      split at ha
      · rename_i c hc
        split at ha
        · rename_i hcond
          obtain ⟨hfit, hpure, hone⟩ := hcond
          simp only [Option.some.injEq, Prod.mk.injEq] at ha
          obtain ⟨rfl, rfl⟩ := ha
          cases hv with
          | ptr ho =>
          rename_i o
          cases lo with
          | some => exact hlo.elim
          | none =>
          cases hi with
          | some => exact hhi.elim
          | none =>
          cases mx with
          | some => exact hmx.elim
          | none =>
          obtain ⟨M', HM, HG, HMb⟩ := H.freeze hblk ho
          obtain ⟨cs, ety, fz, g1, g2, g3, g4, g5, g6, g7⟩ := H.blk id _ o hblk ho
          obtain ⟨ds, h1, h2⟩ := run_underT hT ht w
          cases ds <;> simp only [kindOk] at h2
          obtain ⟨rfl, rfl⟩ := h2
          have hs := run_sizeT hT he w
          have hrun : (Instr.sliceAt t (.pointer (some ⟨o.b, i * o.sz + j, none⟩)) none none none).run P w = .ok (.slice (some ⟨o.b, i * o.sz + j, none⟩) n n) w := by
            simp [Instr.sliceAt, h1, Instr.sureAddr, Instr.sliceBounds, hs, Addr.add]
          rw [hone] at hfit ⊢
          simp only [Nat.mul_one] at hfit ⊢
          refine ⟨_, w, M', β, hrun, ?_, HM, HG, fun _ _ => rfl⟩
          refine .sl 1 o.b (i * o.sz + j) (fun k _ => cs.getD (i * o.sz + (j + k)) default) (by simp) (Nat.le_refl _) (fun _ => rfl) ?_ (fun _ => rfl) ?_ ?_ ?_
          · intro e' he'
            obtain ⟨k, hk, rfl⟩ := List.mem_map.1 he'
            simp at hk ⊢
            omega
          · intro k q hk hq
            have hlt : j + k < c.length := by omega
            obtain ⟨_, v, hv, _⟩ := g6 i (j + k) c c[j + k] hc (by simp [hlt])
            have : q = 0 := by omega
            subst this
            simp only [cellOf, HMb, g1]
            rw [show i * o.sz + j + k * 1 + 0 = i * o.sz + (j + k) by omega, hv]
            simp [Array.getD_eq_getD_getElem?, hv]
          · intro k q e' d he' hd
            simp only [List.getElem?_map, Option.map_eq_some_iff] at he'
            obtain ⟨k', hk', rfl⟩ := he'
            obtain ⟨hlt, rfl⟩ := range_get hk'
            rw [List.getElem?_take] at hd
            split at hd
            · rename_i hq
              have : q = 0 := by omega
              subst this
              rw [List.getElem?_drop, Nat.add_zero] at hd
              obtain ⟨_, v, hv, hr⟩ := g6 i (j + k) c d hc hd
              have hp : d.pure = true := by
                have := List.all_eq_true.1 hpure c (List.mem_of_getElem? hc)
                exact List.all_eq_true.1 this d (List.mem_of_getElem? hd)
              simpa [Array.getD_eq_getD_getElem?, hv] using (hr.mono HG.mle (Ole.refl β)).pure hp
            · cases hd
          · intro e' he' d hd
            obtain ⟨k, hk, rfl⟩ := List.mem_map.1 he'
            obtain ⟨q, hq⟩ := List.mem_iff_getElem?.1 (List.mem_of_mem_drop (List.mem_of_mem_take hd))
            exact (g6 i q c d hc hq).1
        · cases ha
      · cases ha
    · cases ha
  · cases ha
end Go.Xa
