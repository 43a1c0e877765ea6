/- The program's data, and what stands for it. -/
import Derived.Test.YtdiajbbcjndhjaaGreatDoorZD
namespace Go.Xa
open Go.RowKit Go.Proofs

abbrev Str := List UInt8
structure Cpu where
  (r0 r1 r2 r3 r4 r5 r6 r7 pc : Int)
  deriving DecidableEq
structure Sy where
  (n a b c : Int)
  deriving DecidableEq
structure End where
  pipe : Int
  writes : Bool
  deriving DecidableEq
structure Proc where
  (pid parent state : Int)
  c : Cpu
  mem : Str
  code : Int
  (f0 f1 f2 f3 : End)
  want : Sy
  deriving DecidableEq
structure Turn where
  l : List Int
  left : Int
  deriving DecidableEq
structure Alarm where
  (time pid : Int)
  deriving DecidableEq
structure Pipe where
  data : Str
  (readers writers : Int)
  deriving DecidableEq
structure Span where
  (place n who : Int)
  deriving DecidableEq
structure Heap where
  size : Int
  l : List Span
  deriving DecidableEq
structure Chan where
  (kind fr dst size depth : Int)
  deriving DecidableEq
structure Msg where
  time : Int
  body : Str
  deriving DecidableEq
structure Box where
  l : List Msg
  lost : Int
  deriving DecidableEq
structure Event where
  (pid n r time : Int)
  deriving DecidableEq
structure Out where
  port : Int
  body : Str
  deriving DecidableEq
structure Kern where
  p : List Proc
  t : Turn
  s : List Alarm
  pipes : List Pipe
  h : Heap
  now : Int
  images : List Str
  outs : List Chan
  ins : List Chan
  inn : List Box
  cons : Str
  trace : List Event
  sent : List Out
  want : Int
  gone : Int
  deriving DecidableEq
structure Seat where
  k : Kern
  state : Int
  boots : Int
  deriving DecidableEq
structure Part where
  (mem a0 a1 a2 : Int)
  deriving DecidableEq
structure Win where
  (part fr len : Int)
  deriving DecidableEq
structure Plan where
  parts : List Part
  frame : Int
  wins : List (List Win)
  chans : List Chan
  deriving DecidableEq
structure Stamp where
  (time port : Int)
  body : Str
  deriving DecidableEq
structure Sys where
  p : Plan
  images : List (List Str)
  now : Int
  sched : Int
  next : Int
  seats : List Seat
  arrived : List (List Stamp)
  owner : Int
  deriving DecidableEq

def eInt (x : Int) : List D := [.int .i64 x]
def eStr (x : Str) : List D := [.str x]
/-- A slice of rows. -/
def sl {α : Type} (e : α → List D) (l : List α) : D := .sl false (l.map e)
def eCpu (c : Cpu) : List D := [.int .u32 c.r0, .int .u32 c.r1, .int .u32 c.r2, .int .u32 c.r3, .int .u32 c.r4, .int .u32 c.r5, .int .u32 c.r6, .int .u32 c.r7, .int .u32 c.pc]
def eSy (x : Sy) : List D := [.int .u32 x.n, .int .u32 x.a, .int .u32 x.b, .int .u32 x.c]
def eEnd (x : End) : List D := [.int .i64 x.pipe, .bool x.writes]
def eProc (p : Proc) : List D := [.int .i64 p.pid, .int .i64 p.parent, .int .i64 p.state] ++ eCpu p.c ++ [.str p.mem, .int .i64 p.code] ++ eEnd p.f0 ++ eEnd p.f1 ++ eEnd p.f2 ++ eEnd p.f3 ++ eSy p.want
def eTurn (t : Turn) : List D := [sl eInt t.l, .int .i64 t.left]
def eAlarm (a : Alarm) : List D := [.int .u64 a.time, .int .i64 a.pid]
def ePipe (p : Pipe) : List D := [.str p.data, .int .i64 p.readers, .int .i64 p.writers]
def eSpan (s : Span) : List D := [.int .i64 s.place, .int .i64 s.n, .int .i64 s.who]
def eHeap (h : Heap) : List D := [.int .i64 h.size, sl eSpan h.l]
def eChan (c : Chan) : List D := [.int .i64 c.kind, .int .i64 c.fr, .int .i64 c.dst, .int .i64 c.size, .int .i64 c.depth]
def eMsg (m : Msg) : List D := [.int .u64 m.time, .str m.body]
def eBox (b : Box) : List D := [sl eMsg b.l, .int .i64 b.lost]
def eEvent (e : Event) : List D := [.int .i64 e.pid, .int .u32 e.n, .int .u32 e.r, .int .u64 e.time]
def eOut (o : Out) : List D := [.int .i64 o.port, .str o.body]
def eKern (k : Kern) : List D := [sl eProc k.p] ++ eTurn k.t ++ [sl eAlarm k.s, sl ePipe k.pipes] ++ eHeap k.h ++
  [.int .u64 k.now, sl eStr k.images, sl eChan k.outs, sl eChan k.ins, sl eBox k.inn, .str k.cons, sl eEvent k.trace, sl eOut k.sent, .int .i64 k.want, .int .i64 k.gone]
def eSeat (s : Seat) : List D := eKern s.k ++ [.int .i64 s.state, .int .i64 s.boots]
def ePart (p : Part) : List D := [.int .i64 p.mem, .int .i64 p.a0, .int .i64 p.a1, .int .i64 p.a2]
def eWin (w : Win) : List D := [.int .i64 w.part, .int .i64 w.fr, .int .i64 w.len]
def eSl {α : Type} (e : α → List D) (l : List α) : List D := [sl e l]
def ePlan (p : Plan) : List D := [sl ePart p.parts, .int .i64 p.frame, sl (eSl eWin) p.wins, sl eChan p.chans]
def eStamp (s : Stamp) : List D := [.int .u64 s.time, .int .i64 s.port, .str s.body]
def eSys (s : Sys) : List D := ePlan s.p ++ [sl (eSl eStr) s.images, .int .u64 s.now, .int .i64 s.sched, .int .i64 s.next, sl eSeat s.seats, sl (eSl eStamp) s.arrived, .int .i64 s.owner]

/-! ### Elements that are compared -/
/-- A slice type's elements: their type, size. -/
noncomputable def elemOf (t : TypeId) : Option (TypeId × Nat) := match wd.T t with | some { kind := .slice e, .. } => (wd.T e).map fun i : TI => (e, i.size) | _ => none
theorem ix_sl {t e : TypeId} {n : Nat} {α : Type} {en : α → List D} {l : List α} {i : Nat} {x : α} {c : Bool} {k : IntKind} {h : List Blk} (ht : elemOf t = some (e, n)) (hx : l[i]? = some x) (hn : (en x).length = n) :
    aIndexAddr wd.T t (.sl c (l.map en)) (.int k (i : Int)) h = some (.pptr (en x)) := by
  unfold elemOf at ht
  split at ht
  · rename_i e' _ h1
    simp only [Option.map_eq_some_iff, Prod.mk.injEq] at ht
    obtain ⟨ti, h2, rfl, rfl⟩ := ht
    unfold aIndexAddr
    rw [h1]
    simp [h2, hx, hn]
  · cases ht
noncomputable def aggT (e : TypeId) : Bool := match wd.T e with | some i => i.kind.isAgg | none => false
theorem neq_agg {e : TypeId} {xs ys : List D} {b : Bool} (ht : aggT e = true) (h : eqD wd.T 20 e xs ys = some b) : aBin wd.T .neq e (.agg xs) (.agg ys) = some (.bool (!b)) := by
  unfold aggT at ht
  split at ht
  · rename_i i h1; simp [aBin, h1, ht, h]
  · cases ht
theorem eql_agg {e : TypeId} {xs ys : List D} {b : Bool} (ht : aggT e = true) (h : eqD wd.T 20 e xs ys = some b) : aBin wd.T .eql e (.agg xs) (.agg ys) = some (.bool b) := by
  unfold aggT at ht
  split at ht
  · rename_i i h1; simp [aBin, h1, ht, h]
  · cases ht
set_option maxRecDepth 100000
theorem and_decide {a b : Prop} [Decidable a] [Decidable b] : (decide a && decide b) = decide (a ∧ b) := by simp
theorem eqd_Alarm (x y : Alarm) : eqD wd.T 20 86 (eAlarm x) (eAlarm y) = some (decide (x = y)) := by
  have h : eqD wd.T 20 86 (eAlarm x) (eAlarm y) = some (x.time == y.time && (x.pid == y.pid && true)) := by kernel_rfl
  rw [h]
  obtain ⟨_, _⟩ := x
  obtain ⟨_, _⟩ := y
  rw [Option.some.injEq, Bool.eq_iff_iff]
  simp [and_assoc]
theorem eqd_Pipe (x y : Pipe) : eqD wd.T 20 88 (ePipe x) (ePipe y) = some (decide (x = y)) := by
  have h : eqD wd.T 20 88 (ePipe x) (ePipe y) = some (x.data == y.data && (x.readers == y.readers && (x.writers == y.writers && true))) := by kernel_rfl
  rw [h]
  obtain ⟨_, _, _⟩ := x
  obtain ⟨_, _, _⟩ := y
  rw [Option.some.injEq, Bool.eq_iff_iff]
  simp [and_assoc]
theorem eqd_Span (x y : Span) : eqD wd.T 20 91 (eSpan x) (eSpan y) = some (decide (x = y)) := by
  have h : eqD wd.T 20 91 (eSpan x) (eSpan y) = some (x.place == y.place && (x.n == y.n && (x.who == y.who && true))) := by kernel_rfl
  rw [h]
  obtain ⟨_, _, _⟩ := x
  obtain ⟨_, _, _⟩ := y
  rw [Option.some.injEq, Bool.eq_iff_iff]
  simp [and_assoc]
theorem eqd_Chan (x y : Chan) : eqD wd.T 20 94 (eChan x) (eChan y) = some (decide (x = y)) := by
  have h : eqD wd.T 20 94 (eChan x) (eChan y) = some (x.kind == y.kind && (x.fr == y.fr && (x.dst == y.dst && (x.size == y.size && (x.depth == y.depth && true))))) := by kernel_rfl
  rw [h]
  obtain ⟨_, _, _, _, _⟩ := x
  obtain ⟨_, _, _, _, _⟩ := y
  rw [Option.some.injEq, Bool.eq_iff_iff]
  simp [and_assoc]
theorem eqd_Msg (x y : Msg) : eqD wd.T 20 157 (eMsg x) (eMsg y) = some (decide (x = y)) := by
  have h : eqD wd.T 20 157 (eMsg x) (eMsg y) = some (x.time == y.time && (x.body == y.body && true)) := by kernel_rfl
  rw [h]
  obtain ⟨_, _⟩ := x
  obtain ⟨_, _⟩ := y
  rw [Option.some.injEq, Bool.eq_iff_iff]
  simp [and_assoc]
theorem eqd_Event (x y : Event) : eqD wd.T 20 72 (eEvent x) (eEvent y) = some (decide (x = y)) := by
  have h : eqD wd.T 20 72 (eEvent x) (eEvent y) = some (x.pid == y.pid && (x.n == y.n && (x.r == y.r && (x.time == y.time && true)))) := by kernel_rfl
  rw [h]
  obtain ⟨_, _, _, _⟩ := x
  obtain ⟨_, _, _, _⟩ := y
  rw [Option.some.injEq, Bool.eq_iff_iff]
  simp [and_assoc]
theorem eqd_Out (x y : Out) : eqD wd.T 20 97 (eOut x) (eOut y) = some (decide (x = y)) := by
  have h : eqD wd.T 20 97 (eOut x) (eOut y) = some (x.port == y.port && (x.body == y.body && true)) := by kernel_rfl
  rw [h]
  obtain ⟨_, _⟩ := x
  obtain ⟨_, _⟩ := y
  rw [Option.some.injEq, Bool.eq_iff_iff]
  simp [and_assoc]
theorem eqd_Part (x y : Part) : eqD wd.T 20 100 (ePart x) (ePart y) = some (decide (x = y)) := by
  have h : eqD wd.T 20 100 (ePart x) (ePart y) = some (x.mem == y.mem && (x.a0 == y.a0 && (x.a1 == y.a1 && (x.a2 == y.a2 && true)) && true)) := by kernel_rfl
  rw [h]
  obtain ⟨_, _, _, _⟩ := x
  obtain ⟨_, _, _, _⟩ := y
  rw [Option.some.injEq, Bool.eq_iff_iff]
  simp [and_assoc]
theorem eqd_Win (x y : Win) : eqD wd.T 20 102 (eWin x) (eWin y) = some (decide (x = y)) := by
  have h : eqD wd.T 20 102 (eWin x) (eWin y) = some (x.part == y.part && (x.fr == y.fr && (x.len == y.len && true))) := by kernel_rfl
  rw [h]
  obtain ⟨_, _, _⟩ := x
  obtain ⟨_, _, _⟩ := y
  rw [Option.some.injEq, Bool.eq_iff_iff]
  simp [and_assoc]
theorem eqd_Stamp (x y : Stamp) : eqD wd.T 20 125 (eStamp x) (eStamp y) = some (decide (x = y)) := by
  have h : eqD wd.T 20 125 (eStamp x) (eStamp y) = some (x.time == y.time && (x.port == y.port && (x.body == y.body && true))) := by kernel_rfl
  rw [h]
  obtain ⟨_, _, _⟩ := x
  obtain ⟨_, _, _⟩ := y
  rw [Option.some.injEq, Bool.eq_iff_iff]
  simp [and_assoc]
theorem eqd_Proc (x y : Proc) : eqD wd.T 20 151 (eProc x) (eProc y) = some (decide (x = y)) := by
  have h : eqD wd.T 20 151 (eProc x) (eProc y) = some (x.pid == y.pid && (x.parent == y.parent && (x.state == y.state && (x.c.r0 == y.c.r0 && (x.c.r1 == y.c.r1 && (x.c.r2 == y.c.r2 && (x.c.r3 == y.c.r3 && (x.c.r4 == y.c.r4 && (x.c.r5 == y.c.r5 && (x.c.r6 == y.c.r6 && (x.c.r7 == y.c.r7 && true))))))) && (x.c.pc == y.c.pc && true) && (x.mem == y.mem && (x.code == y.code && (x.f0.pipe == y.f0.pipe && (x.f0.writes == y.f0.writes && true) && (x.f1.pipe == y.f1.pipe && (x.f1.writes == y.f1.writes && true) && (x.f2.pipe == y.f2.pipe && (x.f2.writes == y.f2.writes && true) && (x.f3.pipe == y.f3.pipe && (x.f3.writes == y.f3.writes && true) && true))) && (x.want.n == y.want.n && (x.want.a == y.want.a && (x.want.b == y.want.b && (x.want.c == y.want.c && true))) && true)))))))) := by kernel_rfl
  rw [h]
  obtain ⟨_, _, _, ⟨_, _, _, _, _, _, _, _, _⟩, _, _, ⟨_, _⟩, ⟨_, _⟩, ⟨_, _⟩, ⟨_, _⟩, ⟨_, _, _, _⟩⟩ := x
  obtain ⟨_, _, _, ⟨_, _, _, _, _, _, _, _, _⟩, _, _, ⟨_, _⟩, ⟨_, _⟩, ⟨_, _⟩, ⟨_, _⟩, ⟨_, _, _, _⟩⟩ := y
  rw [Option.some.injEq, Bool.eq_iff_iff]
  simp [and_assoc]
theorem neq_Alarm (x y : Alarm) : aBin wd.T .neq 86 (.agg (eAlarm x)) (.agg (eAlarm y)) = some (.bool (!decide (x = y))) := neq_agg (by kernel_rfl) (eqd_Alarm x y)
theorem neq_Pipe (x y : Pipe) : aBin wd.T .neq 88 (.agg (ePipe x)) (.agg (ePipe y)) = some (.bool (!decide (x = y))) := neq_agg (by kernel_rfl) (eqd_Pipe x y)
theorem neq_Span (x y : Span) : aBin wd.T .neq 91 (.agg (eSpan x)) (.agg (eSpan y)) = some (.bool (!decide (x = y))) := neq_agg (by kernel_rfl) (eqd_Span x y)
theorem neq_Chan (x y : Chan) : aBin wd.T .neq 94 (.agg (eChan x)) (.agg (eChan y)) = some (.bool (!decide (x = y))) := neq_agg (by kernel_rfl) (eqd_Chan x y)
theorem neq_Msg (x y : Msg) : aBin wd.T .neq 157 (.agg (eMsg x)) (.agg (eMsg y)) = some (.bool (!decide (x = y))) := neq_agg (by kernel_rfl) (eqd_Msg x y)
theorem neq_Event (x y : Event) : aBin wd.T .neq 72 (.agg (eEvent x)) (.agg (eEvent y)) = some (.bool (!decide (x = y))) := neq_agg (by kernel_rfl) (eqd_Event x y)
theorem neq_Out (x y : Out) : aBin wd.T .neq 97 (.agg (eOut x)) (.agg (eOut y)) = some (.bool (!decide (x = y))) := neq_agg (by kernel_rfl) (eqd_Out x y)
theorem neq_Part (x y : Part) : aBin wd.T .neq 100 (.agg (ePart x)) (.agg (ePart y)) = some (.bool (!decide (x = y))) := neq_agg (by kernel_rfl) (eqd_Part x y)
theorem neq_Win (x y : Win) : aBin wd.T .neq 102 (.agg (eWin x)) (.agg (eWin y)) = some (.bool (!decide (x = y))) := neq_agg (by kernel_rfl) (eqd_Win x y)
theorem neq_Stamp (x y : Stamp) : aBin wd.T .neq 125 (.agg (eStamp x)) (.agg (eStamp y)) = some (.bool (!decide (x = y))) := neq_agg (by kernel_rfl) (eqd_Stamp x y)
theorem neq_Proc (x y : Proc) : aBin wd.T .neq 151 (.agg (eProc x)) (.agg (eProc y)) = some (.bool (!decide (x = y))) := neq_agg (by kernel_rfl) (eqd_Proc x y)
end Go.Xa
