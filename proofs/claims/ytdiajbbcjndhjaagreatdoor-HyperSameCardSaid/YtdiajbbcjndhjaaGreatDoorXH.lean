/- append, copy, clear, make; conversions between strings and bytes. -/
import Derived.Test.YtdiajbbcjndhjaaGreatDoorXG
import Derived.Laws.AppendOwn
namespace Go.Xa
open Go.RowKit

theorem HOk.dead {M : Mem} {β : Bt} {h : List Blk} {w : World} (H : HOk M β h w) (id : Nat) : HOk M β (h.set id .dead) w := by
  have old : ∀ (i : Nat) (y : Blk), (h.set id .dead)[i]? = some y → y.live = true → h[i]? = some y ∧ i ≠ id := by
    intro i y a c
    by_cases hi : id = i
    · subst hi
      rw [List.getElem?_set] at a
      simp only [if_true] at a
      split at a
      · cases a; simp [Blk.live] at c
      · cases a
    · rw [List.getElem?_set_ne hi] at a
      exact ⟨a, fun e => hi e.symm⟩
  refine ⟨fun j y p a b => ?_, fun j y a c => H.has j y (old j y a c).1 c, fun j hj => H.ge j (by simpa using hj), fun i j y z p q a b c d e f g => H.inj i j y z p q (old i y a c).1 (old j z b d).1 c d e f g, H.agree, H.lt⟩
  by_cases hl : y.live = true
  · exact H.blk j y p (old j y a hl).1 b
  · cases y <;> simp [Blk.live] at hl
    trivial

/-- A block under a new number. -/
theorem Slot.dead {β : Bt} {h : List Blk} {ν : Nat} (hs : Slot β h ν) (id : Nat) : Slot β (h.set id .dead) ν := by
  refine ⟨hs.free, ?_⟩
  rcases hs.at_ with r | r
  · exact .inl (by simpa using r)
  · right
    rw [List.getElem?_set]
    split
    · rename_i e
      subst e
      have := (List.getElem?_eq_some_iff.1 r).1
      simp [this]
    · exact r
theorem HOk.again {M : Mem} {β : Bt} {h : List Blk} {w : World} {ν : Nat} (H : HOk M β h w) (hs : Slot β h ν) {id : Nat} {x : Blk} {o : Own} (hx : h[id]? = some x) (ho : β id = some o) (hl : x.live = true) : HOk M (β.push ν o) (place ν x (h.set id .dead)) w := by
  have Hd := H.dead id
  have hO : Ole β (β.push ν o) := Ole.push o hs.free
  exact Hd.push (hs.dead id) o x (H.lt id o ho) (fun i y p a c b hpo => by
    by_cases hi : id = i
    · subst hi
      rw [List.getElem?_set] at a
      simp only [if_true] at a
      split at a
      · cases a; simp [Blk.live] at c
      · cases a
    · rw [List.getElem?_set_ne hi] at a
      exact hi (H.inj id i x y o p hx a hl c ho b hpo.symm)) ((H.blk id x o hx ho).mono (Mle.refl M) hO rfl)
theorem Good.again {M : Mem} {β : Bt} {w : World} {id n : Nat} {o : Own} (ho : β id = some o) (hn : β n = none) : Good M β w M (β.push n o) w :=
  ⟨Mle.refl M, Ole.push o hn, WExt.refl β w, fun k hp => by
    obtain ⟨i, p, hp, rfl⟩ := hp
    unfold Bt.push at hp
    split at hp
    · cases hp; exact .inl ⟨id, o, ho, rfl⟩
    · exact .inl ⟨i, p, hp, rfl⟩, fun _ h => .inl h⟩
theorem Slot.set {β : Bt} {h : List Blk} {ν id : Nat} {x : Blk} (hs : Slot β h ν) (hx : h[id]? ≠ some .dead) : Slot β (h.set id x) ν := by
  refine ⟨hs.free, ?_⟩
  rcases hs.at_ with r | r
  · exact .inl (by simpa using r)
  · right
    rw [List.getElem?_set_ne (fun e => hx (by rw [e]; exact r))]
    exact r

theorem run_append_growX {P : Program} (w : World) {T : Tbl} (hT : T.ok P) {t t2 e : TypeId} {sz by_ : Nat} {z : List D} {ei i2 : TI} (ht : T t = some { size := sz, bytes := by_, kind := .slice e, zero := z }) (he : T e = some ei) (h2 : T t2 = some i2)
    (hk2 : (∃ e2, i2.kind = .slice e2) ∨ i2.kind = .str) (ty : TypeId) (s x : Value) (sa : Option Addr) (sLen sCap n : Nat) (olds news : List Value) (hs : s = .slice sa sLen sCap)
    (hn : (Builtin.lenOf x).run P w = .ok n w) (hold : (Builtin.firstCells ei.size sLen s).run P w.drew = .ok olds.toArray w.drew) (hnew : (Builtin.firstCells ei.size n x).run P w.drew = .ok news.toArray w.drew)
    (hg : sCap < sLen + n) (hb : (sLen + n) * ei.bytes ≤ 70368744177664) (hbig : sLen + n ≤ 70368744177664) :
    ∃ zs : Array Value, zs.size = ei.size ∧ (Builtin.append_ #[t, t2] ty #[s, x]).run P w = .ok (.slice (some ⟨w.heap.size, 0, none⟩) (sLen + n) (grownCap w (sLen + n) sCap e))
        (w.drew.alloc (.cells (olds.toArray ++ news.toArray ++ Builtin.zeroCells zs (grownCap w (sLen + n) sCap e - (sLen + n))) e)) := by
  obtain ⟨dd, u1, u2⟩ := run_underT hT ht w
  cases dd <;> simp only [kindOk] at u2
  subst u2
  obtain ⟨d2, v1, v2⟩ := (hT t2 i2 h2).kind
  have hd2 : (∃ e2, d2 = .slice e2) ∨ d2 = .string := by
    rcases hk2 with ⟨e2, hk⟩ | hk <;> rw [hk] at v2 <;> cases d2 <;> simp_all [kindOk]
  obtain ⟨zv, z1, z2, z3, z4⟩ := run_zeroT hT he w.drew
  obtain ⟨inf, zz, q1, q2, q3, q4, _⟩ := (hT e ei he).info
  refine ⟨zv.cells, z3, ?_⟩
  have hn1 : ¬ (sLen + n ≤ sCap) := by omega
  have h63' : ¬ (9223372036854775807 < ((sLen : Int) + (n : Int))) := by omega
  have hfit := growslice_fits (need := sLen + n) (old := sCap) (bytes := ei.bytes) hg (by omega)
  have h48' : ¬ (281474976710656 < Builtin.nextslicecap (sLen + n) sCap * ei.bytes) := by omega
  have hinfo' : ∀ w, (typeInfo e).run P w = .ok inf w := fun w => by simp [typeInfo, q1]
  subst hs
  rcases hd2 with ⟨e2, rfl⟩ | rfl
  all_goals
    simp [Builtin.append_, u1, run_sizeT hT he, run_underlying v1 w, hn, hn1, h63', hinfo', q3, h48', Question.forced, hold, hnew, z1, newRow, grownCap]
    congr 2
    apply Array.ext'
    simp [List.append_assoc]

theorem flatten_get' {α : Type} {sz : Nat} : ∀ (l : List (List α)) (i j : Nat) (e : List α) (d : α), (∀ c ∈ l, c.length = sz) → l[i]? = some e → e[j]? = some d → l.flatten[i * sz + j]? = some d
  | [], i, _, _, _, _, h, _ => by simp at h
  | c :: l, 0, j, e, d, hs, h, hd => by
    simp only [List.getElem?_cons_zero, Option.some.injEq] at h
    subst h
    have := (List.getElem?_eq_some_iff.1 hd).1
    rw [List.flatten_cons, List.getElem?_append_left (by omega)]
    simpa using hd
  | c :: l, i + 1, j, e, d, hs, h, hd => by
    simp only [List.getElem?_cons_succ] at h
    have hc : c.length = sz := hs c (by simp)
    rw [List.flatten_cons, List.getElem?_append_right (by rw [Nat.add_mul]; omega), show (i + 1) * sz + j - c.length = i * sz + j by rw [Nat.add_mul]; omega]
    exact flatten_get' l i j e d (fun c hc => hs c (by simp [hc])) h hd

/-- The cells of a slice, or of a string as bytes, at hand. -/
def aSource (T : Tbl) (t2 : TypeId) (y : D) (n : Nat) (h : List Blk) : Option (List (List D)) :=
  match T t2 with
  | some { kind := .slice _, .. } => (aElems y h).bind fun l => if headOk l n then some l else none
  | some { kind := .str, .. } =>
    match y with
    | .str s => if n = 1 then some (s.map fun b => [.int .u8 b.toNat]) else none
    | _ => none
  | _ => none
theorem source_ok {P : Program} {T : Tbl} {M : Mem} {β : Bt} {h : List Blk} {w : World} {t2 : TypeId} {v : Value} {y : D} {n : Nat} {l : List (List D)} (H : HOk M β h w) (hv : Rep M β v y) (ha : aSource T t2 y n h = some l) :
    ∃ vs : List Value, (Builtin.lenOf v).run P w = .ok l.length w ∧ (Builtin.firstCells n l.length v).run P w = .ok vs.toArray w ∧ vs.length = l.length * n ∧ RepL M β vs.toArray l.flatten ∧ (∀ e ∈ l, e.length = n) ∧ (∀ e ∈ l, ∀ d ∈ e, d.cell = true) ∧
      (∃ i2, T t2 = some i2 ∧ ((∃ e2, i2.kind = .slice e2) ∨ i2.kind = .str)) := by
  unfold aSource at ha
  split at ha
  · rename_i e _ ht
    simp only [Option.bind_eq_some_iff] at ha
    obtain ⟨l', hl', ha⟩ := ha
    split at ha
    · rename_i hh
      simp only [Option.some.injEq] at ha
      subst ha
      obtain ⟨a, cap, b, off, vs, rfl, h2, h3, h4, h5, h6, h7, h8⟩ := elems_flat H hv hl' hh
      refine ⟨vs, by simp [Builtin.lenOf], ?_, h5, h7, h3, h8, _, ht, .inl ⟨_, rfl⟩⟩
      cases hl : l' with
      | nil =>
        subst hl
        have : vs = [] := List.eq_nil_of_length_eq_zero (by simpa using h5)
        subst this
        cases a <;> simp [Builtin.firstCells, loadCells, loadCellsFrom]
      | cons c cs =>
        rw [h4 (by rw [hl]; simp)]
        rw [← hl]
        have := run_loadCellsX (P := P) w b off vs h6
        simp only [Builtin.firstCells]
        rw [← h5]
        exact this
    · cases ha
  · rename_i _ ht
    split at ha
    · rename_i s
      split at ha
      · rename_i hn
        simp only [Option.some.injEq] at ha
        subst ha; subst hn
        cases hv with
        | str e1 =>
        rename_i bs
        have hlen : s.length = bs.size := by rw [← e1]; simp
        refine ⟨s.map fun b => .int .u8 b.toNat, by simp [Builtin.lenOf, hlen], ?_, by simp, ?_, by simp, by simp [D.cell], _, ht, .inr rfl⟩
        · simp only [Builtin.firstCells, Sem.run_pure, List.length_map]
          congr 1
          apply Array.ext'
          rw [hlen]
          simp [← e1]
        · refine ⟨by rw [flatten_len (sz := 1) _ (by simp)]; simp, fun i v d hv hd => ?_⟩
          obtain ⟨e, he1, he2⟩ := flatten_get (sz := 1) (by omega) _ i d (by simp) hd
          simp only [Nat.div_one, Nat.mod_one, List.getElem?_map, Option.map_eq_some_iff] at he1 he2
          obtain ⟨b, hb, rfl⟩ := he1
          simp at he2
          subst he2
          simp [hb] at hv
          subst hv
          exact .int
      · cases ha
    · cases ha
  · cases ha

def aAppend (T : Tbl) (ν : Nat) (t t2 : TypeId) (x y : D) (h : List Blk) : Option (D × List Blk) :=
  match T t with
  | some { kind := .slice e, .. } =>
    match T e with
    | some ei =>
      match aElems x h, aSource T t2 y ei.size h with
      | some l, some l2 =>
        if headOk l ei.size ∧ (l.length + l2.length) * ei.bytes ≤ 70368744177664 ∧ l.length + l2.length ≤ 70368744177664 ∧ ei.size ≠ 0 then
          if l2.isEmpty then some (x, h) else
          match x with
          | .sl true _ => some (.own ν 0 (l.length + l2.length) false, place ν (.cells (l ++ l2) true) h)
          | .own _ _ _ true => some (.own ν 0 (l.length + l2.length) false, place ν (.cells (l ++ l2) true) h)
          | .own id 0 _ false =>
            match h[id]? with
            | some (.cells elems true) => if headOk elems ei.size && !elems.isEmpty then some (.own ν 0 (l.length + l2.length) false, place ν (.cells (l ++ l2) true) (h.set id .dead)) else none
            | _ => none
          | _ => none
        else none
      | _, _ => none
    | none => none
  | _ => none

/-- A new row that two lists fill. -/
theorem grown_row {P : Program} {M : Mem} {β : Bt} {h : List Blk} {w : World} {ν : Nat} (H : HOk M β h w) (hsl : Slot β h ν) (e : TypeId) {sz cap : Nat} {l l2 : List (List D)} {olds news : List Value} {zs : Array Value} (hl : ∀ c ∈ l, c.length = sz) (hl2 : ∀ c ∈ l2, c.length = sz)
    (hk : ∀ c ∈ l, ∀ d ∈ c, d.cell = true) (hk2 : ∀ c ∈ l2, ∀ d ∈ c, d.cell = true) (ho : RepL M β olds.toArray l.flatten) (hn : RepL M β news.toArray l2.flatten) (hzs : zs.size = sz) (hcap : l.length + l2.length ≤ cap) :
    let o : Own := ⟨w.heap.size, sz, cap⟩
    let ob := Obj.cells (olds.toArray ++ news.toArray ++ Builtin.zeroCells zs (cap - (l.length + l2.length))) e
    HOk M (β.push ν o) (place ν (.cells (l ++ l2) true) h) (w.alloc ob) ∧ Good M β w M (β.push ν o) (w.alloc ob) ∧ (β.push ν o) ν = some o := by
  have e1 : olds.length = l.length * sz := by have := ho.1; simp only [List.size_toArray] at this; rw [this, flatten_len l hl]
  have e2 : news.length = l2.length * sz := by have := hn.1; simp only [List.size_toArray] at this; rw [this, flatten_len l2 hl2]
  refine ok_newRow (P := P) H hsl e _ (0, 0) sz cap (l ++ l2) ?_ (by simpa using hcap) (fun c hc => ?_) (by simp) (fun i j c d hi hj => ?_)
  · simp only [Array.size_append, List.size_toArray, size_zeroCells, e1, e2, hzs, ← Nat.add_mul]
    exact Nat.mul_le_mul_right _ (by omega)
  · rcases List.mem_append.1 hc with h1 | h1
    · exact hl c h1
    · exact hl2 c h1
  · have hcl : c.length = sz := by
      rcases List.mem_append.1 (List.mem_of_getElem? hi) with h1 | h1
      · exact hl c h1
      · exact hl2 c h1
    have hjs : j < sz := by rw [← hcl]; exact (List.getElem?_eq_some_iff.1 hj).1
    by_cases hil : i < l.length
    · rw [List.getElem?_append_left hil] at hi
      have hf := flatten_get' l i j c d hl hi hj
      have hlt : i * sz + j < olds.length := by rw [e1]; exact mul_within hil hjs
      refine ⟨hk c (List.mem_of_getElem? hi) d (List.mem_of_getElem? hj), olds[i * sz + j], ?_, ho.2 _ _ d (by simp [hlt]) hf⟩
      rw [Array.append_assoc, Array.getElem?_append_left (by simpa using hlt)]
      simp [hlt]
    · rw [List.getElem?_append_right (by omega)] at hi
      have hf := flatten_get' l2 (i - l.length) j c d hl2 hi hj
      have hil2 : i - l.length < l2.length := (List.getElem?_eq_some_iff.1 hi).1
      have hlt : (i - l.length) * sz + j < news.length := by rw [e2]; exact mul_within hil2 hjs
      have hpos : i * sz + j = olds.length + ((i - l.length) * sz + j) := by
        rw [e1, Nat.sub_mul]
        have := Nat.mul_le_mul_right sz (show l.length ≤ i by omega)
        omega
      refine ⟨hk2 c (List.mem_of_getElem? hi) d (List.mem_of_getElem? hj), news[(i - l.length) * sz + j], ?_, hn.2 _ _ d (by simp [hlt]) hf⟩
      rw [hpos, Array.append_assoc, Array.getElem?_append_right (by simp), Array.getElem?_append_left (by simp; omega)]
      simp [hlt]

theorem HOk.dead_place {M : Mem} {β : Bt} {h : List Blk} {w : World} {ν : Nat} {x y : Blk} (H : HOk M β (place ν x h) w) (id : Nat) (hid : id < h.length) (hs : ν = h.length ∨ h[ν]? = some .dead) (hb : h[id]? = some y) (hy : y ≠ .dead := by simp) : HOk M β (place ν x (h.set id .dead)) w := by
  have := H.dead id
  have e : (place ν x h).set id .dead = place ν x (h.set id .dead) := by
    unfold place
    simp only [List.length_set]
    split
    · rw [List.set_append_left _ _ hid]
    · rename_i hne
      have : ν ≠ id := by
        rintro rfl
        rcases hs with r | r
        · omega
        · rw [hb] at r; exact hy (Option.some.inj r)
      rw [List.set_comm _ _ this]
  rwa [e] at this
theorem own_inv {M : Mem} {β : Bt} {a : Option Addr} {n cap id off len : Nat} {clip : Bool} (h : Rep M β (.slice a n cap) (.own id off len clip)) :
    ∃ o, β id = some o ∧ a = some ⟨o.b, off * o.sz, none⟩ ∧ n = len ∧ len ≤ cap ∧ (clip = true → cap = len) ∧ off + cap ≤ o.n := by
  cases h with
  | own ho hcap hclip hn => exact ⟨_, ho, rfl, rfl, hcap, hclip, hn⟩
theorem append_room {P : Program} {T : Tbl} (hT : T.ok P) {M : Mem} {β : Bt} {h : List Blk} {w : World} {t t2 ty e : TypeId} {sz by_ : Nat} {z : List D} {ei i2 : TI} {v : Value} {id len cap ν : Nat} {o : Own} {elems l2 : List (List D)} {news : List Value}
    (H : HOk M β h w) (hsl : Slot β h ν) (ht : T t = some { size := sz, bytes := by_, kind := .slice e, zero := z }) (he : T e = some ei) (h2 : T t2 = some i2) (hk2 : (∃ e2, i2.kind = .slice e2) ∨ i2.kind = .str)
    (hb : h[id]? = some (.cells elems true)) (ho : β id = some o) (hsz : o.sz = ei.size) (hlen : len ≤ elems.length) (hcap : cap ≤ o.n) (hroom : len + l2.length ≤ cap)
    (n1 : (Builtin.lenOf v).run P w = .ok l2.length w) (n2 : (Builtin.firstCells ei.size l2.length v).run P w = .ok news.toArray w) (n4 : RepL M β news.toArray l2.flatten) (n5 : ∀ c ∈ l2, c.length = ei.size) (n6 : ∀ c ∈ l2, ∀ d ∈ c, d.cell = true) :
    OpOk P ν (Builtin.append_ #[t, t2] ty #[.slice (some ⟨o.b, 0, none⟩) len cap, v]) M β w (.own ν 0 (len + l2.length) false) (place ν (.cells (elems.take len ++ l2) true) (h.set id .dead)) := by
  obtain ⟨cur, ety, fz, g1, g2, g3, g4, g5, g6, g7⟩ := H.blk id _ o hb ho
  have e2 : news.length = l2.length * o.sz := by have := n4.1; simp only [List.size_toArray] at this; rw [this, flatten_len l2 n5, hsz]
  have hnz : (len + l2.length) * o.sz ≤ o.n * o.sz := Nat.mul_le_mul_right _ (by omega)
  rw [Nat.add_mul] at hnz
  have hst := run_storeCellsX P o.b (len * o.sz) ety fz news 0 cur w g1 (fun k hk1 hk2 => g3 k (by omega)) (by omega) (fun u hu => by
    obtain ⟨k, hk⟩ := List.mem_iff_getElem?.1 hu
    have hk' : k < l2.flatten.length := by rw [← n4.1]; simpa using (List.getElem?_eq_some_iff.1 hk).1
    refine (n4.2 k u l2.flatten[k] (by simpa using hk) (by simp [hk'])).oneCell ?_
    have hm := List.getElem_mem hk'
    rw [List.mem_flatten] at hm
    obtain ⟨c, hc, hd⟩ := hm
    exact n6 c hc _ hd)
  simp only [Nat.add_zero] at hst
  have hrow := H.setRow (id := id) (o := o) (elems' := elems.take len ++ l2) (cs' := (cur.toList.take (len * o.sz) ++ news ++ cur.toList.drop (len * o.sz + news.length)).toArray) hb ho g1 (by simp; omega) (by simp; omega)
    (fun c hc => by
      rcases List.mem_append.1 hc with h' | h'
      · exact g5 c (List.mem_of_mem_take h')
      · rw [hsz]; exact n5 c h') (fun i j c d hi hj => by
      simp only [List.getElem?_toArray]
      rw [seg_get _ _ _ _ (by simp; omega)]
      have hcl : c.length = o.sz := by
        rcases List.mem_append.1 (List.mem_of_getElem? hi) with h' | h'
        · exact g5 c (List.mem_of_mem_take h')
        · rw [hsz]; exact n5 c h'
      have hjs : j < o.sz := by rw [← hcl]; exact (List.getElem?_eq_some_iff.1 hj).1
      have htl : (elems.take len).length = len := by simp; omega
      by_cases hil : i < len
      · rw [List.getElem?_append_left (by omega), List.getElem?_take, if_pos hil] at hi
        have := mul_within hil hjs
        rw [if_neg (by omega)]
        simpa using g6 i j c d hi hj
      · rw [List.getElem?_append_right (by omega), htl] at hi
        have hil2 : i - len < l2.length := (List.getElem?_eq_some_iff.1 hi).1
        have hf := flatten_get' (sz := o.sz) l2 (i - len) j c d (fun c hc => by rw [hsz]; exact n5 c hc) hi hj
        have hlt := mul_within (n := l2.length) (s := o.sz) hil2 hjs
        have hpos : i * o.sz = len * o.sz + (i - len) * o.sz := by rw [← Nat.add_mul]; congr 1; omega
        rw [if_pos (by omega), show i * o.sz + j - len * o.sz = (i - len) * o.sz + j by omega]
        have hlt' : (i - len) * o.sz + j < news.length := by omega
        exact ⟨n6 c (List.mem_of_getElem? hi) d (List.mem_of_getElem? hj), news[(i - len) * o.sz + j], by simp [hlt'], n4.2 _ _ d (by simp [hlt']) hf⟩)
  have hag := hrow.1.again (ν := ν) (hsl.set (by rw [hb]; simp)) (id := id) (x := .cells (elems.take len ++ l2) true) (o := o) (by
    have hid : id < h.length := (List.getElem?_eq_some_iff.1 hb).1
    simp [hid]) ho rfl
  rw [List.set_set] at hag
  refine ⟨.slice (some ⟨o.b, 0, none⟩) (len + l2.length) cap, _, M, β.push ν o, ?_, ?_, hag, hrow.2.trans (Good.again ho hsl.free), Bt.push_ne β ν _⟩
  · obtain ⟨dd, u1, u2⟩ := run_underT hT ht w
    cases dd <;> simp only [kindOk] at u2
    subst u2
    obtain ⟨d2, v1, v2⟩ := (hT t2 i2 h2).kind
    have hd2 : (∃ e2, d2 = .slice e2) ∨ d2 = .string := by
      rcases hk2 with ⟨e2, hk⟩ | hk <;> rw [hk] at v2 <;> cases d2 <;> simp_all [kindOk]
    rw [← hsz] at n2
    rcases hd2 with ⟨e2, rfl⟩ | rfl
    all_goals
      simp [Builtin.append_, u1, run_sizeT hT he, run_underlying v1 w, n1, n2, hroom, Addr.add_lit, ← hsz, hst]
  · have := Rep.own (M := M) (β := β.push ν o) (id := ν) (off := 0) (len := len + l2.length) (cap := cap) (clip := false) (o := o) (by simp) hroom (by simp) (by omega)
    simpa using this

theorem append_ok {P : Program} {T : Tbl} (hT : T.ok P) {M : Mem} {β : Bt} {h h' : List Blk} {w : World} {ν : Nat} {t t2 ty : TypeId} {u v : Value} {x y d : D} (H : HOk M β h w) (hsl : Slot β h ν) (hu : Rep M β u x) (hv : Rep M β v y)
    (ha : aAppend T ν t t2 x y h = some (d, h')) : OpOk P ν (Builtin.append_ #[t, t2] ty #[u, v]) M β w d h' := by
  unfold aAppend at ha
  split at ha
  · rename_i e _ ht
    split at ha
    · rename_i ei he
      split at ha
      · rename_i l l2 hl hl2
        split at ha
        · rename_i hc
          obtain ⟨c1, c2, c3, c4⟩ := hc
          obtain ⟨news, n1, n2, n3, n4, n5, n6, i2, n7, n8⟩ := source_ok (P := P) H hv hl2
          obtain ⟨news', _, n2', n3', n4', _⟩ := source_ok (P := P) H.drew hv hl2
          have hx : aSource T t x ei.size h = some l := by simp [aSource, ht, hl, c1]
          obtain ⟨olds, o1, o2, o3, o4, o5, o6, _⟩ := source_ok (P := P) H hu hx
          obtain ⟨olds', _, o2', o3', o4', _⟩ := source_ok (P := P) H.drew hu hx
          obtain ⟨a, cap, sz', b, off, val, rfl, hlc, -⟩ := elems_ok H hu hl
          -- the ways
          have grow : cap < l.length + l2.length → OpOk P ν (Builtin.append_ #[t, t2] ty #[.slice a l.length cap, v]) M β w (.own ν 0 (l.length + l2.length) false) (place ν (.cells (l ++ l2) true) h) := by
            intro hg
            obtain ⟨zs, z1, hrun⟩ := run_append_growX (P := P) w hT ht he n7 n8 ty (.slice a l.length cap) v a l.length cap l2.length olds' news' rfl n1 o2' n2' hg c2 c3
            have hcap := grownCap_ge w (l.length + l2.length) cap e
            obtain ⟨g1, g2, g3⟩ := grown_row (P := P) H.drew hsl e o5 n5 o6 n6 o4' n4' z1 hcap
            refine ⟨_, _, M, _, hrun, ?_, g1, (Good.drew M β w).trans g2, Bt.push_ne β ν _⟩
            have := Rep.own (M := M) (id := ν) (off := 0) (len := l.length + l2.length) (cap := grownCap w (l.length + l2.length) cap e) (clip := false) g3 hcap (by simp) (by simp)
            simpa using this
          split at ha
          · rename_i hemp
            have h0 : l2 = [] := by simpa using hemp
            subst h0
            simp only [Option.some.injEq, Prod.mk.injEq] at ha
            obtain ⟨rfl, rfl⟩ := ha
            have hne : news = [] := List.eq_nil_of_length_eq_zero (by simpa using n3)
            subst hne
            refine OpOk.pure H (v := .slice a l.length cap) ?_ hu
            obtain ⟨dd, u1, u2⟩ := run_underT hT ht w
            cases dd <;> simp only [kindOk] at u2
            subst u2
            obtain ⟨d2, v1, v2⟩ := (hT t2 i2 n7).kind
            have hd2 : (∃ e2, d2 = .slice e2) ∨ d2 = .string := by
              rcases n8 with ⟨e2, hk⟩ | hk <;> rw [hk] at v2 <;> cases d2 <;> simp_all [kindOk]
            simp only [List.length_nil] at n1 n2
            rcases hd2 with ⟨e2, rfl⟩ | rfl
            all_goals
              cases a <;> simp [Builtin.append_, u1, run_sizeT hT he, run_underlying v1 w, n1, n2, hlc, storeCells]
          · rename_i hemp
            have h0 : 0 < l2.length := by
              rcases Nat.eq_zero_or_pos l2.length with r | r
              · exact absurd (by simpa using List.eq_nil_of_length_eq_zero r) hemp
              · exact r
            split at ha
            · simp only [Option.some.injEq, Prod.mk.injEq] at ha
              obtain ⟨rfl, rfl⟩ := ha
              cases hu with
              | sl _ _ _ _ hl' hc' hclip =>
              have := hclip rfl
              exact grow (by omega)
            · simp only [Option.some.injEq, Prod.mk.injEq] at ha
              obtain ⟨rfl, rfl⟩ := ha
              cases hu with
              | own _ _ hclip _ =>
              have := hclip rfl
              exact grow (by omega)
            · rename_i id len
              split at ha
              · rename_i elems hb
                split at ha
                case isFalse => cases ha
                rename_i hhead
                simp only [Option.some.injEq, Prod.mk.injEq] at ha
                obtain ⟨rfl, rfl⟩ := ha
                by_cases hroom : l.length + l2.length ≤ cap
                · -- in place
                  obtain ⟨len', hlen', hu'⟩ : ∃ len', l.length = len' ∧ Rep M β (.slice a len' cap) (.own id 0 len false) := ⟨_, rfl, hu⟩
                  have hel : l = elems.take len ∧ len ≤ elems.length := by
                    simp only [aElems, hb] at hl
                    split at hl
                    · simp only [List.drop_zero, Option.some.injEq] at hl
                      exact ⟨hl.symm, by omega⟩
                    · cases hl
                  obtain ⟨rfl, hfit⟩ := hel
                  have hll : (elems.take len).length = len := by simp; omega
                  rw [hll] at hlen' hroom ⊢
                  subst hlen'
                  obtain ⟨o, ho, rfl, _, hcap, hclip, hn⟩ := own_inv hu'
                  obtain ⟨cur, ety, fz, g1, g2, g3, g4, g5, g6, g7⟩ := H.blk id _ o hb ho
                  simp only [Bool.and_eq_true, Bool.not_eq_true', List.isEmpty_eq_false_iff] at hhead
                  have hosz := headOk_len hhead.1 g5 hhead.2
                  rw [Nat.zero_mul]
                  exact append_room hT H hsl ht he n7 n8 hb ho hosz hfit (by omega) hroom n1 n2 n4 n5 n6
                · have hg := grow (by omega)
                  obtain ⟨v', w', M', β', r1, r2, r3, r4⟩ := hg
                  have hid : id < h.length := (List.getElem?_eq_some_iff.1 hb).1
                  refine ⟨v', w', M', β', r1, r2, ?_, r4⟩
                  exact r3.dead_place id hid hsl.at_ hb
              · cases ha
            · cases ha
        · cases ha
      · cases ha
    · cases ha
  · cases ha
end Go.Xa
