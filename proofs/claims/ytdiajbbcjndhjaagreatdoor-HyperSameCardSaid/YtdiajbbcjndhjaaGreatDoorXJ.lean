/- make, clear, conversions between strings and bytes; all operations together. -/
import Derived.Test.YtdiajbbcjndhjaaGreatDoorXI
namespace Go.Xa
open Go.RowKit

theorem wrap_i64 {n : Int} (h1 : -9223372036854775808 ≤ n) (h2 : n ≤ 9223372036854775807) : IntKind.i64.wrap n = n := by
  simp only [IntKind.wrap, IntKind.bits, IntKind.signed]
  simp
  omega
def aMake (T : Tbl) (ν : Nat) (t : TypeId) (l c : D) (h : List Blk) : Option (D × List Blk) :=
  match T t, l, c with
  | some { kind := .slice e, .. }, .int _ l, .int _ c =>
    match T e with
    | some ei =>
      if 0 ≤ l ∧ l ≤ c ∧ c ≤ 137438953472 ∧ ei.bytes ≤ 1024 ∧ ei.zero.length = ei.size then
        some (.own ν 0 l.toNat (l == c), place ν (.cells (List.replicate c.toNat ei.zero) true) h)
      else none
    | none => none
  | _, _, _ => none
theorem make_ok {P : Program} {T : Tbl} (hT : T.ok P) {M : Mem} {β : Bt} {h h' : List Blk} {w : World} {ν : Nat} {t : TypeId} {u v : Value} {x y d : D} (H : HOk M β h w) (hsl : Slot β h ν) (hu : Rep M β u x) (hv : Rep M β v y)
    (ha : aMake T ν t x y h = some (d, h')) : OpOk P ν (Instr.makeSlice t u v) M β w d h' := by
  unfold aMake at ha
  split at ha
  · rename_i e _ k1 l k2 c ht
    split at ha
    · rename_i ei he
      split at ha
      · rename_i hc
        obtain ⟨c1, c2, c3, c4, c5⟩ := hc
        simp only [Option.some.injEq, Prod.mk.injEq] at ha
        obtain ⟨rfl, rfl⟩ := ha
        cases hu; cases hv
        obtain ⟨dd, u1, u2⟩ := run_underT hT ht w
        cases dd <;> simp only [kindOk] at u2
        subst u2
        obtain ⟨inf, i1, i2, i3⟩ := run_infoT hT he w
        obtain ⟨z, z1, z2, z3, z4⟩ := run_zeroT hT he w
        obtain ⟨r1, r2⟩ := zeros_rep (M := M) (β := β) z.cells c.toNat z4
        rw [← z2] at r1 r2
        have hw1 : IntKind.i64.wrap l = l := wrap_i64 (by omega) (by omega)
        have hw2 : IntKind.i64.wrap c = c := wrap_i64 (by omega) (by omega)
        have hall : ∀ e ∈ List.replicate c.toNat ei.zero, e.length = ei.size := fun e he => by rw [List.eq_of_mem_replicate he]; exact c5
        obtain ⟨q1, q2, q3⟩ := ok_newRow (P := P) H hsl e ((Array.range (c.toNat * z.cells.size)).map (z.cells[· % z.cells.size]!)) (0, 0) ei.size c.toNat (List.replicate c.toNat ei.zero) (by simp [z3]) (by simp) hall (by simp) (fun i j e' d hi hj => by
          have hf := flatten_get' (sz := ei.size) (List.replicate c.toNat ei.zero) i j e' d hall hi hj
          have hlt : i * ei.size + j < ((Array.range (c.toNat * z.cells.size)).map (z.cells[· % z.cells.size]!)).size := by
            rw [r1.1]; exact (List.getElem?_eq_some_iff.1 hf).1
          exact ⟨r2 d (List.mem_of_getElem? hf), _, Array.getElem?_eq_getElem hlt, r1.2 _ _ d (Array.getElem?_eq_getElem hlt) hf⟩)
        refine ⟨.slice (some ⟨w.heap.size, 0, none⟩) l.toNat c.toNat, _, M, _, ?_, ?_, q1, q2, Bt.push_ne β ν _⟩
        · have hbytes : ¬ (281474976710656 < (ei.bytes : Int) * c) := by
            have h1 : (ei.bytes : Int) * c ≤ 1024 * c := Int.mul_le_mul_of_nonneg_right (by omega) (by omega)
            omega
          have hcn : ¬ c < 0 := by omega
          have hln : ¬ l < 0 := by omega
          have hlc : ¬ c < l := by omega
          by_cases h0 : c.toNat * ei.size = 0
          · have e0 : ((Array.range (c.toNat * ei.size)).map ((#[] : Array Value)[· % (#[] : Array Value).size]!)) = (Array.range (c.toNat * z.cells.size)).map (z.cells[· % z.cells.size]!) := by
              rw [z3, h0]; simp [Array.range]
            simp [Instr.makeSlice, u1, asInt, asIntOf, i1, hw1, hw2, i3, hbytes, hcn, hln, hlc, run_sizeT hT he, h0, newRow]
            rw [← e0]
            simp [h0]
          · have e0 : ((Array.range (c.toNat * ei.size)).map (z.cells[· % z.cells.size]!)) = (Array.range (c.toNat * z.cells.size)).map (z.cells[· % z.cells.size]!) := by
              rw [z3]
            simp only [Nat.mul_eq_zero, not_or] at h0
            simp [Instr.makeSlice, u1, asInt, asIntOf, i1, hw1, hw2, i3, hbytes, hcn, hln, hlc, run_sizeT hT he, if_neg (show ¬ (c.toNat * ei.size = 0) from by simp [Nat.mul_eq_zero]; omega), newRow, z1, z3]
        · have := Rep.own (M := M) (id := ν) (off := 0) (len := l.toNat) (cap := c.toNat) (clip := l == c) q3 (by omega) (fun hc => by simp at hc; rw [hc]) (by simp)
          simpa using this
      · cases ha
    · cases ha
  · cases ha

def aClear (T : Tbl) (t : TypeId) (x : D) (h : List Blk) : Option (D × List Blk) :=
  match T t with
  | some { kind := .slice e, .. } =>
    match T e, x with
    | some _, .sl _ [] => some (.tup [], h)
    | some ei, .own id off len _ =>
      match h[id]? with
      | some (.cells elems true) =>
        if headOk elems ei.size && !elems.isEmpty && decide (off + len ≤ elems.length) && decide (ei.zero.length = ei.size) then
          some (.tup [], h.set id (.cells (elems.take off ++ List.replicate len ei.zero ++ elems.drop (off + len)) true))
        else none
      | _ => none
    | _, _ => none
  | _ => none
theorem clear_ok {P : Program} {ν : Nat} {T : Tbl} (hT : T.ok P) {M : Mem} {β : Bt} {h h' : List Blk} {w : World} {t ty : TypeId} {u : Value} {x d : D} (H : HOk M β h w) (hu : Rep M β u x)
    (ha : aClear T t x h = some (d, h')) : OpOk P ν (Builtin.clear_ #[t] ty #[u]) M β w d h' := by
  unfold aClear at ha
  split at ha
  · rename_i e _ ht
    obtain ⟨dd, u1, u2⟩ := run_underT hT ht w
    cases dd <;> simp only [kindOk] at u2
    subst u2
    split at ha
    · simp only [Option.some.injEq, Prod.mk.injEq] at ha
      obtain ⟨rfl, rfl⟩ := ha
      cases hu with
      | sl sz b off val hl hc hclip hs hn hm hr hk =>
      rename_i a len cap
      have : len = 0 := by simpa using hl.symm
      subst this
      refine OpOk.pure H (v := .tuple #[]) ?_ (.tup rfl (by simp))
      cases a <;> simp [Builtin.clear_, u1]
    · rename_i ei id off len clip he
      split at ha
      · rename_i elems hb
        split at ha
        · rename_i hc
          simp only [Bool.and_eq_true, Bool.not_eq_true', List.isEmpty_eq_false_iff, decide_eq_true_eq] at hc
          obtain ⟨⟨⟨c1, c2⟩, c3⟩, c4⟩ := hc
          simp only [Option.some.injEq, Prod.mk.injEq] at ha
          obtain ⟨rfl, rfl⟩ := ha
          cases hu with
          | own ho hcap hclip hn =>
          rename_i cap o
          obtain ⟨cur, ety, fz, g1, g2, g3, g4, g5, g6, g7⟩ := H.blk id _ o hb ho
          have hosz := headOk_len c1 g5 c2
          obtain ⟨z, z1, z2, z3, z4⟩ := run_zeroT hT he w
          obtain ⟨r1, r2⟩ := zeros_rep (M := M) (β := β) z.cells len z4
          rw [← z2] at r1 r2
          have hall : ∀ e ∈ List.replicate len ei.zero, e.length = o.sz := fun e he => by rw [List.eq_of_mem_replicate he, hosz]; exact c4
          have hzc : (Builtin.zeroCells z.cells len) = ((Array.range (len * z.cells.size)).map (z.cells[· % z.cells.size]!)) := rfl
          obtain ⟨w', s1, s2, s3⟩ := store_elems (P := P) H (off := off) (l2 := List.replicate len ei.zero) (news := (Builtin.zeroCells z.cells len).toList) hb ho (by simp; omega) (by rw [hzc, Array.toArray_toList]; exact r1) hall
            (fun c hc d hd => r2 d (by rw [aZeros, List.mem_flatten]; exact ⟨c, hc, hd⟩))
          simp only [List.length_replicate] at s2
          refine ⟨.tuple #[], w', M, β, ?_, .tup rfl (by simp), s2, s3, fun _ _ => rfl⟩
          by_cases h0 : len = 0
          · subst h0
            have : w' = w := by
              have e0 : (Builtin.zeroCells z.cells 0).toList = [] := by simp [Builtin.zeroCells]
              rw [e0] at s1
              simp [storeCells] at s1
              exact s1.symm
            subst this
            simp [Builtin.clear_, u1]
          · cases len with
            | zero => exact absurd rfl h0
            | succ len => simp [Builtin.clear_, u1, z1, s1]
        · cases ha
      · cases ha
    · cases ha
  · cases ha

theorem bytes_rep {M : Mem} {β : Bt} : ∀ (l : List (List D)) (s : List UInt8) (vs : List Value), aBytes l = some s → RepL M β vs.toArray l.flatten → ∃ ns : List Int, vs = ns.map (Value.int .u8) ∧ s = ns.map fun n => UInt8.ofNat n.toNat
  | [], s, vs, h, hr => by
    simp only [aBytes, Option.some.injEq] at h
    subst h
    have : vs = [] := List.eq_nil_of_length_eq_zero (by simpa using hr.1)
    subst this
    exact ⟨[], rfl, rfl⟩
  | c :: l, s, vs, h, hr => by
    unfold aBytes at h
    split at h
    · rename_i e; cases e
    · rename_i n l' e
      cases e
      simp only [Option.map_eq_some_iff] at h
      obtain ⟨s', hs', rfl⟩ := h
      cases vs with
      | nil => have := hr.1; simp at this
      | cons v vs =>
        have hv := hr.2 0 v (.int .u8 n) (by simp) (by simp)
        cases hv
        obtain ⟨ns, rfl, rfl⟩ := bytes_rep l s' vs hs' ⟨by have := hr.1; simp at this ⊢; omega, fun i v d hv hd => hr.2 (i + 1) v d (by simpa using hv) (by simpa using hd)⟩
        exact ⟨n :: ns, rfl, rfl⟩
    · cases h
theorem foldl_push : ∀ (ns : List Int) (b : ByteArray), (ns.foldl (fun r n => r.push (UInt8.ofNat n.toNat)) b).data.toList = b.data.toList ++ ns.map fun n => UInt8.ofNat n.toNat
  | [], b => by simp
  | n :: ns, b => by
    rw [List.foldl_cons, foldl_push ns]
    simp [ByteArray.data_push]

def aConvert (T : Tbl) (ν : Nat) (src dst : TypeId) (x : D) (h : List Blk) : Option (D × List Blk) :=
  match T src, T dst, x with
  | some { kind := .str, .. }, some { kind := .slice e, .. }, .str s =>
    match T e with
    | some { kind := .int .u8, .. } => some (.own ν 0 s.length false, place ν (.cells (s.map fun b => [.int .u8 b.toNat]) true) h)
    | _ => none
  | _, _, x => (aConv T src dst x h).map fun d => (d, h)
theorem conv_ok {P : Program} {T : Tbl} (hT : T.ok P) {M : Mem} {β : Bt} {h : List Blk} {w : World} {src dst : TypeId} {u : Value} {x d : D} (H : HOk M β h w) (hu : Rep M β u x)
    (ha : aConv T src dst x h = some d) : ∃ r, (convert src dst u).run P w = .ok r w ∧ Rep M β r d := by
  unfold aConv at ha
  split at ha
  · rename_i i1 _ _ k _ _ n h1 h2
    cases ha
    cases hu
    obtain ⟨d1, a1, a2⟩ := run_underT hT h1 w
    obtain ⟨d2, b1, b2⟩ := run_underT hT h2 w
    cases d2 <;> simp only [kindOk] at b2
    subst b2
    exact ⟨.int k (k.wrap n), by simp [convert, a1, b1, Conv.intToInt], .int⟩
  · rename_i s h1 h2
    cases ha
    cases hu with
    | str e1 =>
    obtain ⟨d1, a1, a2⟩ := run_underT hT h1 w
    obtain ⟨d2, b1, b2⟩ := run_underT hT h2 w
    cases d2 <;> simp only [kindOk] at b2
    exact ⟨.string _, by simp [convert, a1, b1], .str e1⟩
  · rename_i e _ _ _ _ h1 h2
    split at ha
    · rename_i l he hl
      simp only [Option.map_eq_some_iff] at ha
      obtain ⟨s, hs, rfl⟩ := ha
      obtain ⟨d1, a1, a2⟩ := (hT src _ h1).kind
      cases d1 <;> simp only [kindOk] at a2
      subst a2
      obtain ⟨d2, b1, b2⟩ := (hT dst _ h2).kind
      cases d2 <;> simp only [kindOk] at b2
      obtain ⟨d3, f1, f2⟩ := (hT e _ he).kind
      cases d3 <;> simp only [kindOk] at f2
      subst f2
      have hone : headOk l 1 = true := by
        cases l with
        | nil => rfl
        | cons c l =>
          unfold aBytes at hs
          split at hs
          · rename_i q; cases q
          · rename_i q; cases q; rfl
          · cases hs
      obtain ⟨a, cap, b, off, vs, rfl, g2, g3, g4, g5, g6, g7, g8⟩ := elems_flat H hu hl hone
      obtain ⟨ns, rfl, rfl⟩ := bytes_rep l s vs hs g7
      have hconv := run_convert_bytes_string (P := P) w src dst e a l.length cap a1 f1 b1
      cases hll : l with
      | nil =>
        subst hll
        have hns : ns = [] := by
          have := g5; simp at this; exact this
        subst hns
        refine ⟨.string .empty, ?_, .str (by simp)⟩
        rw [hconv]
        cases a with
        | none => simp [Conv.bytesToString]
        | some a =>
          have := run_bytesToString (P := P) w a 0 cap [] (by simp [loadCells, loadCellsFrom])
          simpa using this
      | cons c cs =>
        rw [← hll]
        obtain rfl := g4 (by rw [hll]; simp)
        have hld := run_loadCellsX (P := P) w b off _ g6
        rw [g5, Nat.mul_one] at hld
        have := run_bytesToString (P := P) w ⟨b, off, none⟩ l.length cap ns hld
        refine ⟨.string _, by rw [hconv]; exact this, .str ?_⟩
        rw [foldl_push]
        simp
    · cases ha
  · cases ha

theorem freeze_alloc (w : World) (cs : Array Value) (e : TypeId) : (w.alloc (.cells cs e)).freeze ⟨w.heap.size, cs.size, none⟩ 1 = w.alloc (.cells cs e (cs.size, cs.size + 1)) := by
  simp only [World.freeze, Nat.succ_ne_zero, if_false]
  unfold World.alloc
  congr 1
  apply Array.ext_getElem?
  intro i
  rw [Array.getElem?_modify, Array.getElem?_push, Array.getElem?_push]
  by_cases h : i = w.heap.size
  · subst h; simp
  · have h' : w.heap.size ≠ i := fun e => h e.symm
    simp [h, h']
theorem convert_ok {P : Program} {T : Tbl} (hT : T.ok P) {M : Mem} {β : Bt} {h h' : List Blk} {w : World} {ν : Nat} {src dst : TypeId} {u : Value} {x d : D} (H : HOk M β h w) (hsl : Slot β h ν) (hu : Rep M β u x)
    (ha : aConvert T ν src dst x h = some (d, h')) : OpOk P ν (convert src dst u) M β w d h' := by
  unfold aConvert at ha
  split at ha
  · rename_i e _ s hs hd
    split at ha
    · rename_i he
      simp only [Option.some.injEq, Prod.mk.injEq] at ha
      obtain ⟨rfl, rfl⟩ := ha
      cases hu with
      | str e1 =>
      rename_i bs
      have hlen : s.length = bs.size := by rw [← e1]; simp
      obtain ⟨d1, a1, a2⟩ := run_underT hT hs w
      cases d1 <;> simp only [kindOk] at a2
      obtain ⟨d2, b1, b2⟩ := run_underT hT hd w
      cases d2 <;> simp only [kindOk] at b2
      subst b2
      obtain ⟨d3, f1, f2⟩ := run_underT hT he w
      cases d3 <;> simp only [kindOk] at f2
      subst f2
      let cap := grownCap w bs.size 0 e
      have hcap : bs.size ≤ cap := grownCap_ge w _ _ _
      let cs : Array Value := bs.data.map (fun b => Value.int .u8 b.toNat) ++ Array.replicate (cap - bs.size) (.int .u8 0)
      have hcs : cs.size = cap := by
        have hb : bs.data.size = bs.size := rfl
        simp [cs]; omega
      obtain ⟨q1, q2, q3⟩ := ok_newRow (P := P) H.drew hsl e cs (cs.size, cs.size + 1) 1 cap (s.map fun b => [.int .u8 b.toNat]) (by omega) (by simp; omega) (by simp) (fun k hk => by omega) (fun i j c d hi hj => by
        simp only [List.getElem?_map, Option.map_eq_some_iff] at hi
        obtain ⟨b, hb, rfl⟩ := hi
        obtain ⟨rfl, rfl⟩ := getElem?_single hj
        refine ⟨rfl, .int .u8 b.toNat, ?_, .int⟩
        have hlt : i < bs.data.size := by
          have := (List.getElem?_eq_some_iff.1 hb).1
          have hb : bs.data.size = bs.size := rfl
          omega
        simp only [cs, Nat.mul_one, Nat.add_zero]
        rw [Array.getElem?_append_left (by simpa using hlt)]
        rw [← e1] at hb
        simp only [Array.getElem?_toList] at hb
        simp [hb])
      refine ⟨.slice (some ⟨w.heap.size, 0, none⟩) bs.size cap, w.drew.alloc (.cells cs e (cs.size, cs.size + 1)), M, _, ?_, ?_, q1, (Good.drew M β w).trans q2, Bt.push_ne β ν _⟩
      · have hfr := freeze_alloc w.drew cs e
        simp only [World.size_drew] at hfr
        have hshape : (w.drew.alloc (.cells cs e)).shape? w.heap.size = some (e, cs.size) := by
          have := World.alloc_heap_new w.drew (.cells cs e)
          simp only [World.size_drew] at this
          unfold World.shape?
          rw [this]
        simp only [convert, Sem.run_bind, a1, b1, f1, Result.andThen_ok, Conv.stringToBytes, run_choose, Question.forced, Bool.false_eq_true, if_false, World.drew_eq, newRow, run_newObj, World.alloc_eq, Sem.run_pure, markStringish, run_shape]
        have hcapdef : (Question.appendCap bs.size 0 e).cut (w.tape w.drawn (.appendCap bs.size 0 e)) = cap := rfl
        simp only [hcapdef, World.size_drew]
        rw [show (bs.data.map (fun b => Value.int .u8 b.toNat) ++ Array.replicate (cap - bs.size) (.int .u8 0)) = cs from rfl]
        rw [hshape]
        simp only [run_freeze, Result.andThen_ok]
        rw [hfr]
      · have := Rep.own (M := M) (id := ν) (off := 0) (len := bs.size) (cap := cap) (clip := false) q3 hcap (by simp) (by simp)
        rw [hlen]
        simpa using this
    · cases ha
  · simp only [Option.map_eq_some_iff, Prod.mk.injEq] at ha
    obtain ⟨d', ha, rfl, rfl⟩ := ha
    obtain ⟨r, h1, h2⟩ := conv_ok hT H hu ha
    exact OpOk.pure H h1 h2
/-- Zeros appended. -/
def aExt (T : Tbl) (ν : Nat) (t : TypeId) (x y : D) (h : List Blk) : Option (D × List Blk) :=
  match T t, y with
  | some { kind := .slice e, .. }, .int _ n =>
    match T e, aElems x h with
    | some ei, some l =>
      if headOk l ei.size ∧ 0 < n ∧ (l.length + n.toNat) * ei.bytes ≤ 70368744177664 ∧ l.length + n.toNat ≤ 70368744177664 ∧ n * ei.bytes ≤ 70368744177664 ∧ ei.size ≠ 0 ∧ ei.zero.length = ei.size then
        match x with
        | .sl true _ => some (.own ν 0 (l.length + n.toNat) false, place ν (.cells (l ++ List.replicate n.toNat ei.zero) true) h)
        | .own _ _ _ true => some (.own ν 0 (l.length + n.toNat) false, place ν (.cells (l ++ List.replicate n.toNat ei.zero) true) h)
        | _ => none
      else none
    | _, _ => none
  | _, _ => none
def isIntT (T : Tbl) (t : TypeId) : Bool :=
  match T t with
  | some { kind := .int _, .. } => true
  | _ => false
theorem ext_ok {P : Program} {T : Tbl} (hT : T.ok P) {M : Mem} {β : Bt} {h h' : List Blk} {w : World} {ν : Nat} {t t2 ty : TypeId} {u v : Value} {x y d : D} (H : HOk M β h w) (hsl : Slot β h ν) (hu : Rep M β u x) (hv : Rep M β v y)
    (hi2 : isIntT T t2 = true) (ha : aExt T ν t x y h = some (d, h')) : OpOk P ν (Builtin.append_ #[t, t2] ty #[u, v]) M β w d h' := by
  unfold isIntT at hi2
  split at hi2
  case h_2 => cases hi2
  rename_i k2 h2
  unfold aExt at ha
  split at ha
  case h_2 => cases ha
  rename_i e _ kk n ht
  split at ha
  case h_2 => cases ha
  rename_i ei l he hl
  split at ha
  case isFalse => cases ha
  rename_i hc
  obtain ⟨c1, c2, c3, c4, c5, c6, c7⟩ := hc
  cases hv
  have hx : aSource T t x ei.size h = some l := by simp [aSource, ht, hl, c1]
  obtain ⟨olds, o1, o2, o3, o4, o5, o6, _⟩ := source_ok (P := P) H hu hx
  obtain ⟨olds', _, o2', o3', o4', _⟩ := source_ok (P := P) H.drew hu hx
  obtain ⟨a, cap, sz', b, off, val, rfl, hlc, -⟩ := elems_ok H hu hl
  have main : cap = l.length → d = .own ν 0 (l.length + n.toNat) false → h' = place ν (.cells (l ++ List.replicate n.toNat ei.zero) true) h → OpOk P ν (Builtin.append_ #[t, t2] ty #[.slice a l.length cap, .int kk n]) M β w d h' := by
    rintro rfl rfl rfl
    obtain ⟨dd, u1, u2⟩ := run_underT hT ht w
    cases dd <;> simp only [kindOk] at u2
    subst u2
    obtain ⟨d2, v1, v2⟩ := (hT t2 _ h2).kind
    cases d2 <;> simp only [kindOk] at v2
    obtain ⟨inf, zz, q1, q2, q3, q4, _⟩ := (hT e ei he).info
    obtain ⟨zv, z1, z2, z3, z4⟩ := run_zeroT hT he w.drew
    obtain ⟨r1, r2⟩ := zeros_rep (M := M) (β := β) zv.cells n.toNat z4
    rw [← z2] at r1 r2
    have hall : ∀ e ∈ List.replicate n.toNat ei.zero, e.length = ei.size := fun e he => by rw [List.eq_of_mem_replicate he]; exact c7
    have hcell : ∀ c ∈ List.replicate n.toNat ei.zero, ∀ d ∈ c, d.cell = true := fun c hc d hd => r2 d (List.mem_flatten.2 ⟨c, hc, hd⟩)
    let cap := grownCap w (l.length + n.toNat) l.length e
    have hcap : l.length + (List.replicate n.toNat ei.zero).length ≤ cap := by
      rw [List.length_replicate]; exact grownCap_ge w (l.length + n.toNat) l.length e
    obtain ⟨g1, g2, g3⟩ := grown_row (P := P) (l2 := List.replicate n.toNat ei.zero) (news := (Builtin.zeroCells zv.cells n.toNat).toList) (zs := zv.cells) H.drew hsl e o5 hall o6 hcell o4' (by rw [Array.toArray_toList]; exact r1) z3 hcap
    refine ⟨.slice (some ⟨w.heap.size, 0, none⟩) (l.length + n.toNat) cap, _, M, _, ?_, ?_, g1, (Good.drew M β w).trans g2, Bt.push_ne β ν _⟩
    · have hinfo' : ∀ w, (typeInfo e).run P w = .ok inf w := fun w => by simp [typeInfo, q1]
      have hn : IntKind.i64.wrap n = n := wrap_i64 (by omega) (by omega)
      have hneg : ¬ n < 0 := by omega
      have h48 : ¬ (281474976710656 < n * (ei.bytes : Int)) := by omega
      have hroom : ¬ (l.length + n.toNat ≤ l.length) := by omega
      have h63 : ¬ (9223372036854775807 < ((l.length : Int) + (n.toNat : Int))) := by omega
      have hfit := growslice_fits (need := l.length + n.toNat) (old := l.length) (bytes := ei.bytes) (by omega) (by omega)
      have h48' : ¬ (281474976710656 < Builtin.nextslicecap (l.length + n.toNat) l.length * ei.bytes) := by omega
      have h0 : ¬ (n.toNat * ei.size = 0) := by
        rw [Nat.mul_eq_zero]; omega
      have h00 : ¬ (n ≤ 0) := by omega
      have h63' : ¬ (9223372036854775807 < ((l.length : Int) + max n 0)) := by omega
      simp [Builtin.append_, u1, run_sizeT hT he, run_underlying v1 w, asInt, asIntOf, hn, hneg, hinfo', q3, h48, hroom, h63, h48', Question.forced, o2', z1, newRow, grownCap, List.length_replicate, c6, h00, h63']
      simp [cap, grownCap, Array.append_assoc]
      exact fun hz => absurd hz h0
    · have := Rep.own (M := M) (id := ν) (off := 0) (len := l.length + n.toNat) (cap := cap) (clip := false) g3 (by simpa using hcap) (by simp) (by simp)
      simpa using this
  split at ha
  · simp only [Option.some.injEq, Prod.mk.injEq] at ha
    obtain ⟨rfl, rfl⟩ := ha
    cases hu with
    | sl _ _ _ _ hl' hc' hclip => exact main (hclip rfl ▸ rfl) rfl rfl
  · simp only [Option.some.injEq, Prod.mk.injEq] at ha
    obtain ⟨rfl, rfl⟩ := ha
    cases hu with
    | own _ _ hclip _ => exact main (hclip rfl) rfl rfl
  · cases ha
end Go.Xa
