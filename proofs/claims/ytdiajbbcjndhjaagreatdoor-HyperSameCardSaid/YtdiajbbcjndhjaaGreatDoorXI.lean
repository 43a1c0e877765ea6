/- copy, clear, len, cap, min, max, make, conversions. -/
import Derived.Test.YtdiajbbcjndhjaaGreatDoorXH
namespace Go.Xa
open Go.RowKit

theorem source_pre {P : Program} {T : Tbl} {M : Mem} {β : Bt} {h : List Blk} {w : World} {t2 : TypeId} {v : Value} {y : D} {n : Nat} {l : List (List D)} (H : HOk M β h w) (hv : Rep M β v y) (ha : aSource T t2 y n h = some l) (k : Nat) (hk : k ≤ l.length) :
    ∃ vs : List Value, (Builtin.lenOf v).run P w = .ok l.length w ∧ (Builtin.firstCells n k v).run P w = .ok vs.toArray w ∧ vs.length = k * n ∧ RepL M β vs.toArray (l.take k).flatten ∧ (∀ e ∈ l, e.length = n) ∧ (∀ e ∈ l, ∀ d ∈ e, d.cell = true) := by
  unfold aSource at ha
  split at ha
  · rename_i e _ ht
    simp only [Option.bind_eq_some_iff] at ha
    obtain ⟨l', hl', ha⟩ := ha
    split at ha
    · rename_i hh
      simp only [Option.some.injEq] at ha
      subst ha
      obtain ⟨a, cap, b, off, vs, rfl, h2, h3, h4, h5, h6, h7, h8⟩ := elems_flat H hv hl' hh
      have hkn : k * n ≤ l'.length * n := Nat.mul_le_mul_right _ hk
      have hvl : (vs.take (k * n)).length = k * n := by simp; omega
      have hflat : (l'.take k).flatten = l'.flatten.take (k * n) := by
        conv => rhs; rw [← List.take_append_drop k l', List.flatten_append]
        rw [List.take_left' (by rw [flatten_len (sz := n) _ (fun c hc => h3 c (List.mem_of_mem_take hc)), List.length_take, Nat.min_eq_left hk])]
      refine ⟨vs.take (k * n), by simp [Builtin.lenOf], ?_, hvl, ?_, h3, h8⟩
      · by_cases h0 : l' = []
        · subst h0
          have : k = 0 := by simpa using hk
          subst this
          cases a <;> simp [Builtin.firstCells, loadCells, loadCellsFrom]
        · rw [h4 h0]
          have := run_loadCellsX (P := P) w b off (vs.take (k * n)) (fun j u hu => by
            rw [List.getElem?_take] at hu
            split at hu
            · exact h6 j u hu
            · cases hu)
          simp only [Builtin.firstCells]
          rw [← hvl]
          rw [hvl] at this ⊢
          exact this
      · rw [hflat]
        refine ⟨by have := h7.1; simp at this ⊢; omega, fun i u d hu hd => ?_⟩
        rw [List.getElem?_take] at hd
        simp only [List.getElem?_toArray, List.getElem?_take] at hu
        split at hd
        · rename_i hi
          rw [if_pos hi] at hu
          exact h7.2 i u d (by simpa using hu) hd
        · cases hd
    · cases ha
  · rename_i _ ht
    split at ha
    · rename_i s
      split at ha
      · rename_i hn
        simp only [Option.some.injEq] at ha
        subst ha; subst hn
        cases hv with
        | str e1 =>
        rename_i bs
        have hlen : s.length = bs.size := by rw [← e1]; simp
        simp only [List.length_map] at hk
        refine ⟨(s.take k).map fun b => .int .u8 b.toNat, by simp [Builtin.lenOf, hlen], ?_, by simp; omega, ?_, by simp, by simp [D.cell]⟩
        · simp only [Builtin.firstCells, Sem.run_pure]
          congr 1
          apply Array.ext'
          simp [← e1]
        · have hone : ∀ c ∈ (s.map fun b => [D.int .u8 b.toNat]).take k, c.length = 1 := fun c hc => by
            obtain ⟨b, _, rfl⟩ := List.mem_map.1 (List.mem_of_mem_take hc)
            rfl
          rw [← List.map_take] at hone ⊢
          refine ⟨by rw [flatten_len (sz := 1) _ hone]; simp, fun i v d hv hd => ?_⟩
          obtain ⟨e, he1, he2⟩ := flatten_get (sz := 1) (by omega) _ i d hone hd
          simp only [Nat.div_one, Nat.mod_one, List.getElem?_map, Option.map_eq_some_iff] at he1 he2
          obtain ⟨b, hb, rfl⟩ := he1
          simp at he2
          subst he2
          simp only [List.getElem?_toArray, List.getElem?_map, hb, Option.map_some, Option.some.injEq] at hv
          subst hv
          exact .int
      · cases ha
    · cases ha
  · cases ha

/-- Elements of a row of the call's own are written. -/
theorem store_elems {P : Program} {M : Mem} {β : Bt} {h : List Blk} {w : World} (H : HOk M β h w) {id off : Nat} {o : Own} {elems l2 : List (List D)} {news : List Value} (hb : h[id]? = some (.cells elems true)) (ho : β id = some o)
    (hfit : off + l2.length ≤ elems.length) (n4 : RepL M β news.toArray l2.flatten) (n5 : ∀ c ∈ l2, c.length = o.sz) (n6 : ∀ c ∈ l2, ∀ d ∈ c, d.cell = true) :
    ∃ w', (storeCells ⟨o.b, off * o.sz, none⟩ news).run P w = .ok () w' ∧ HOk M β (h.set id (.cells (elems.take off ++ l2 ++ elems.drop (off + l2.length)) true)) w' ∧ Good M β w M β w' := by
  obtain ⟨cur, ety, fz, g1, g2, g3, g4, g5, g6, g7⟩ := H.blk id _ o hb ho
  have e2 : news.length = l2.length * o.sz := by have := n4.1; simp only [List.size_toArray] at this; rw [this, flatten_len l2 n5]
  have hnz : (off + l2.length) * o.sz ≤ o.n * o.sz := Nat.mul_le_mul_right _ (by omega)
  rw [Nat.add_mul] at hnz
  have hst := run_storeCellsX P o.b (off * o.sz) ety fz news 0 cur w g1 (fun k hk1 hk2 => g3 k (by omega)) (by omega) (fun u hu => by
    obtain ⟨k, hk⟩ := List.mem_iff_getElem?.1 hu
    have hk' : k < l2.flatten.length := by rw [← n4.1]; simpa using (List.getElem?_eq_some_iff.1 hk).1
    refine (n4.2 k u l2.flatten[k] (by simpa using hk) (by simp)).oneCell ?_
    have hm := List.getElem_mem hk'
    rw [List.mem_flatten] at hm
    obtain ⟨c, hc, hd⟩ := hm
    exact n6 c hc _ hd)
  simp only [Nat.add_zero] at hst
  have hrow := H.setRow (id := id) (o := o) (elems' := elems.take off ++ l2 ++ elems.drop (off + l2.length)) (cs' := (cur.toList.take (off * o.sz) ++ news ++ cur.toList.drop (off * o.sz + news.length)).toArray) hb ho g1 (by simp; omega) (by simp; omega)
    (fun c hc => by
      rcases List.mem_append.1 hc with h' | h'
      · rcases List.mem_append.1 h' with h'' | h''
        · exact g5 c (List.mem_of_mem_take h'')
        · exact n5 c h''
      · exact g5 c (List.mem_of_mem_drop h')) (fun i j c d hi hj => by
      simp only [List.getElem?_toArray]
      rw [seg_get _ _ _ _ (by simp; omega)]
      rw [seg_get _ _ _ _ hfit] at hi
      split at hi
      · rename_i hin
        have hcl : c.length = o.sz := n5 c (List.mem_of_getElem? hi)
        have hjs : j < o.sz := by rw [← hcl]; exact (List.getElem?_eq_some_iff.1 hj).1
        have hf := flatten_get' (sz := o.sz) l2 (i - off) j c d n5 hi hj
        have hlt := mul_within (n := l2.length) (s := o.sz) (List.getElem?_eq_some_iff.1 hi).1 hjs
        have hpos : i * o.sz = off * o.sz + (i - off) * o.sz := by rw [← Nat.add_mul]; congr 1; omega
        rw [if_pos (by omega), show i * o.sz + j - off * o.sz = (i - off) * o.sz + j by omega]
        have hlt' : (i - off) * o.sz + j < news.length := by omega
        exact ⟨n6 c (List.mem_of_getElem? hi) d (List.mem_of_getElem? hj), news[(i - off) * o.sz + j], by simp [hlt'], n4.2 _ _ d (by simp [hlt']) hf⟩
      · rename_i hin
        have hcl : c.length = o.sz := g5 c (List.mem_of_getElem? hi)
        have hjs : j < o.sz := by rw [← hcl]; exact (List.getElem?_eq_some_iff.1 hj).1
        rw [if_neg]
        · simpa using g6 i j c d hi hj
        · rintro ⟨q1, q2⟩
          by_cases hlt : i < off
          · have := mul_within hlt hjs; omega
          · have hge : off + l2.length ≤ i := by omega
            have := Nat.mul_le_mul_right o.sz hge
            rw [Nat.add_mul] at this
            omega)
  exact ⟨_, hst, hrow.1, hrow.2⟩

def aCopy (T : Tbl) (t t2 : TypeId) (x y : D) (h : List Blk) : Option (D × List Blk) :=
  match T t with
  | some { kind := .slice e, .. } =>
    match T e with
    | some ei =>
      match aSource T t2 y ei.size h, x with
      | some _, .sl _ [] => some (.int .i64 0, h)
      | some l2, .own id off len _ =>
        match h[id]? with
        | some (.cells elems true) =>
          if headOk elems ei.size && !elems.isEmpty && decide (off + len ≤ elems.length) then
            some (.int .i64 (min l2.length len : Nat), h.set id (.cells (elems.take off ++ l2.take (min l2.length len) ++ elems.drop (off + min l2.length len)) true))
          else none
        | _ => none
      | _, _ => none
    | none => none
  | _ => none
theorem copy_ok {P : Program} {ν : Nat} {T : Tbl} (hT : T.ok P) {M : Mem} {β : Bt} {h h' : List Blk} {w : World} {t t2 ty : TypeId} {u v : Value} {x y d : D} (H : HOk M β h w) (hu : Rep M β u x) (hv : Rep M β v y)
    (ha : aCopy T t t2 x y h = some (d, h')) : OpOk P ν (Builtin.copy_ #[t, t2] ty #[u, v]) M β w d h' := by
  unfold aCopy at ha
  split at ha
  · rename_i e _ ht
    split at ha
    · rename_i ei he
      obtain ⟨dd, u1, u2⟩ := run_underT hT ht w
      cases dd <;> simp only [kindOk] at u2
      subst u2
      split at ha
      · rename_i l2 _ hl2
        simp only [Option.some.injEq, Prod.mk.injEq] at ha
        obtain ⟨rfl, rfl⟩ := ha
        obtain ⟨vs, n1, n2, n3, n4, n5, n6⟩ := source_pre (P := P) H hv hl2 0 (Nat.zero_le _)
        have hvs : vs = [] := List.eq_nil_of_length_eq_zero (by simpa using n3)
        subst hvs
        cases hu with
        | sl sz b off val hl hc hclip hs hn hm hr hk =>
        rename_i a len cap
        have : len = 0 := by simpa using hl.symm
        subst this
        refine OpOk.pure H (v := .int .i64 0) ?_ .int
        cases a <;> simp [Builtin.copy_, u1, n1, run_sizeT hT he, n2, storeCells, goInt, Nat.min_eq_min]
      · rename_i l2 id off len clip hl2
        split at ha
        · rename_i elems hb
          split at ha
          · rename_i hc
            simp only [Bool.and_eq_true, Bool.not_eq_true', List.isEmpty_eq_false_iff, decide_eq_true_eq] at hc
            obtain ⟨⟨c1, c2⟩, c3⟩ := hc
            simp only [Option.some.injEq, Prod.mk.injEq] at ha
            obtain ⟨rfl, rfl⟩ := ha
            obtain ⟨vs, n1, n2, n3, n4, n5, n6⟩ := source_pre (P := P) H hv hl2 (min l2.length len) (Nat.min_le_left _ _)
            cases hu with
            | own ho hcap hclip hn =>
            rename_i cap o
            obtain ⟨cur, ety, fz, g1, g2, g3, g4, g5, g6, g7⟩ := H.blk id _ o hb ho
            have hosz := headOk_len c1 g5 c2
            have hml : (l2.take (min l2.length len)).length = min l2.length len := by simp
            obtain ⟨w', s1, s2, s3⟩ := store_elems (P := P) H (off := off) (l2 := l2.take (min l2.length len)) hb ho (by rw [hml]; omega) n4 (fun c hc => by rw [hosz]; exact n5 c (List.mem_of_mem_take hc)) (fun c hc => n6 c (List.mem_of_mem_take hc))
            rw [hml] at s2
            refine ⟨.int .i64 (min l2.length len : Nat), w', M, β, ?_, .int, s2, s3, fun _ _ => rfl⟩
            simp [Builtin.copy_, u1, n1, run_sizeT hT he, Nat.min_eq_min, n2, s1, goInt]
          · cases ha
        · cases ha
      · cases ha
    · cases ha
  · cases ha

def aLen (T : Tbl) (t : TypeId) (x : D) : Option D :=
  match T t, x with
  | some { kind := .str, .. }, .str s => some (.int .i64 s.length)
  | some { kind := .slice _, .. }, .sl _ l => some (.int .i64 l.length)
  | some { kind := .slice _, .. }, .own _ _ len _ => some (.int .i64 len)
  | some { kind := .arr n _, .. }, _ => some (.int .i64 n)
  | _, _ => none
theorem len_ok {P : Program} {T : Tbl} (hT : T.ok P) {M : Mem} {β : Bt} {w : World} {t ty : TypeId} {u : Value} {x d : D} (hu : Rep M β u x) (ha : aLen T t x = some d) :
    ∃ r, (Builtin.len_ #[t] ty #[u]).run P w = .ok r w ∧ Rep M β r d := by
  unfold aLen at ha
  split at ha
  · rename_i s ht
    obtain ⟨dd, u1, u2⟩ := run_underT hT ht w
    cases dd <;> simp only [kindOk] at u2
    cases ha
    cases hu with
    | str e1 =>
    rename_i bs
    have hlen : s.length = bs.size := by rw [← e1]; simp
    exact ⟨.int .i64 s.length, by simp [Builtin.len_, u1, goInt, hlen], .int⟩
  · rename_i e _ clip l ht
    obtain ⟨dd, u1, u2⟩ := run_underT hT ht w
    cases dd <;> simp only [kindOk] at u2
    cases ha
    cases hu with
    | sl sz b off val hl =>
    exact ⟨.int .i64 l.length, by simp [Builtin.len_, u1, goInt, hl], .int⟩
  · rename_i e _ id off len clip ht
    obtain ⟨dd, u1, u2⟩ := run_underT hT ht w
    cases dd <;> simp only [kindOk] at u2
    cases ha
    cases hu
    exact ⟨.int .i64 len, by simp [Builtin.len_, u1, goInt], .int⟩
  · rename_i n e _ ht
    obtain ⟨dd, u1, u2⟩ := run_underT hT ht w
    cases dd <;> simp only [kindOk] at u2
    obtain ⟨rfl, rfl⟩ := u2
    cases ha
    exact ⟨.int .i64 n, by simp [Builtin.len_, u1, goInt], .int⟩
  · cases ha

def aCap (T : Tbl) (t : TypeId) (x : D) : Option D :=
  match T t, x with
  | some { kind := .slice _, .. }, .sl true l => some (.int .i64 l.length)
  | some { kind := .slice _, .. }, .own _ _ len true => some (.int .i64 len)
  | _, _ => none
theorem cap_ok {P : Program} {T : Tbl} (hT : T.ok P) {M : Mem} {β : Bt} {w : World} {t ty : TypeId} {u : Value} {x d : D} (hu : Rep M β u x) (ha : aCap T t x = some d) :
    ∃ r, (Builtin.cap_ #[t] ty #[u]).run P w = .ok r w ∧ Rep M β r d := by
  unfold aCap at ha
  split at ha
  · rename_i e _ l ht
    obtain ⟨dd, u1, u2⟩ := run_underT hT ht w
    cases dd <;> simp only [kindOk] at u2
    cases ha
    cases hu with
    | sl sz b off val hl hc hclip =>
    have := hclip rfl
    exact ⟨.int .i64 l.length, by simp [Builtin.cap_, u1, goInt, hl, this], .int⟩
  · rename_i e _ id off len ht
    obtain ⟨dd, u1, u2⟩ := run_underT hT ht w
    cases dd <;> simp only [kindOk] at u2
    cases ha
    cases hu with
    | own _ hc hclip _ =>
    have := hclip rfl
    exact ⟨.int .i64 len, by simp [Builtin.cap_, u1, goInt, this], .int⟩
  · cases ha

def aMin : List D → Option D
  | [.int k a, .int k' b] => if k = k' then some (.int k (if b < a then b else a)) else none
  | [.int k a, .int k' b, .int k'' c] => if k = k' ∧ k = k'' then some (.int k (if c < (if b < a then b else a) then c else (if b < a then b else a))) else none
  | _ => none
def aMax : List D → Option D
  | [.int k a, .int k' b] => if k = k' then some (.int k (if b > a then b else a)) else none
  | _ => none
theorem repL_two {M : Mem} {β : Bt} {vs : Array Value} {x y : D} (h : RepL M β vs [x, y]) : ∃ u v, vs = #[u, v] ∧ Rep M β u x ∧ Rep M β v y := by
  obtain ⟨h1, h2⟩ := h
  have hs : vs.size = 2 := h1
  refine ⟨vs[0], vs[1], ?_, h2 0 _ x (by simp [hs]) rfl, h2 1 _ y (by simp [hs]) rfl⟩
  apply Array.ext
  · simp [hs]
  · intro i h1 h2
    rcases i with _ | _ | i
    · rfl
    · rfl
    · simp at h2; omega
theorem repL_three {M : Mem} {β : Bt} {vs : Array Value} {x y z : D} (h : RepL M β vs [x, y, z]) : ∃ u v r, vs = #[u, v, r] ∧ Rep M β u x ∧ Rep M β v y ∧ Rep M β r z := by
  obtain ⟨h1, h2⟩ := h
  have hs : vs.size = 3 := h1
  refine ⟨vs[0], vs[1], vs[2], ?_, h2 0 _ x (by simp [hs]) rfl, h2 1 _ y (by simp [hs]) rfl, h2 2 _ z (by simp [hs]) rfl⟩
  apply Array.ext
  · simp [hs]
  · intro i h1 h2
    rcases i with _ | _ | _ | i
    · rfl
    · rfl
    · rfl
    · simp at h2; omega
theorem min_ok {P : Program} {M : Mem} {β : Bt} {w : World} {at_ : Array TypeId} {ty : TypeId} {vs : Array Value} {ds : List D} {d : D} (hv : RepL M β vs ds) (ha : aMin ds = some d) :
    ∃ r, (Builtin.min_ at_ ty vs).run P w = .ok r w ∧ Rep M β r d := by
  unfold aMin at ha
  split at ha
  · split at ha
    · rename_i hk; subst hk
      cases ha
      obtain ⟨u, v, rfl, h1, h2⟩ := repL_two hv
      cases h1; cases h2
      exact ⟨_, by simp [Builtin.min_, Builtin.min2], .int⟩
    · cases ha
  · split at ha
    · rename_i hk; obtain ⟨rfl, rfl⟩ := hk
      cases ha
      obtain ⟨u, v, r, rfl, h1, h2, h3⟩ := repL_three hv
      cases h1; cases h2; cases h3
      exact ⟨_, by simp [Builtin.min_, Builtin.min2], .int⟩
    · cases ha
  · cases ha
theorem max_ok {P : Program} {M : Mem} {β : Bt} {w : World} {at_ : Array TypeId} {ty : TypeId} {vs : Array Value} {ds : List D} {d : D} (hv : RepL M β vs ds) (ha : aMax ds = some d) :
    ∃ r, (Builtin.max_ at_ ty vs).run P w = .ok r w ∧ Rep M β r d := by
  unfold aMax at ha
  split at ha
  · split at ha
    · rename_i hk; subst hk
      cases ha
      obtain ⟨u, v, rfl, h1, h2⟩ := repL_two hv
      cases h1; cases h2
      exact ⟨_, by simp [Builtin.max_, Builtin.max2], .int⟩
    · cases ha
  · cases ha
end Go.Xa
