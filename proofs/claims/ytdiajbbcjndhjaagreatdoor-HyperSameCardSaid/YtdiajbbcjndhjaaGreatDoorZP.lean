/- Each of the program's types, read of memory. -/
import Derived.Test.YtdiajbbcjndhjaaGreatDoorZO
import Derived.Test.YtdiajbbcjndhjaaGreatDoorZK
namespace Go.Xa
open Go.RowKit Go.Proofs

noncomputable def kindAt (t : TypeId) : Option TK := (wd.T t).map (·.kind)
section
variable {H : Type} {en0 : TypeId × Value → H} {W : World} {t : TypeId}
theorem o_int {k : IntKind} (h : kindAt t = some (.int k)) : Opens H en0 W t (fun n => [.int k n]) (fun n => k.min ≤ n ∧ n ≤ k.max) := by
  unfold kindAt at h
  simp only [Option.map_eq_some_iff] at h
  obtain ⟨i, h1, h2⟩ := h
  exact opens_int h1 h2
theorem o_bool (h : kindAt t = some .bool) : Opens H en0 W t (fun b => [.bool b]) (fun _ => True) := by
  unfold kindAt at h
  simp only [Option.map_eq_some_iff] at h
  obtain ⟨i, h1, h2⟩ := h
  exact opens_bool h1 h2
theorem o_str (h : kindAt t = some .str) : Opens H en0 W t eStr (fun s => s.length ≤ 9223372036854775807) := by
  unfold kindAt at h
  simp only [Option.map_eq_some_iff] at h
  obtain ⟨i, h1, h2⟩ := h
  exact opens_str h1 h2
theorem o_i64 : Opens H en0 W 3 (fun n => [.int .i64 n]) (fun n => IntKind.i64.min ≤ n ∧ n ≤ IntKind.i64.max) := o_int (by kernel_rfl)
theorem o_u32 : Opens H en0 W 70 (fun n => [.int .u32 n]) (fun n => IntKind.u32.min ≤ n ∧ n ≤ IntKind.u32.max) := o_int (by kernel_rfl)
theorem o_u64 : Opens H en0 W 31 (fun n => [.int .u64 n]) (fun n => IntKind.u64.min ≤ n ∧ n ≤ IntKind.u64.max) := o_int (by kernel_rfl)
theorem o_b : Opens H en0 W 4 (fun b => [.bool b]) (fun _ => True) := o_bool (by kernel_rfl)
theorem o_s : Opens H en0 W 9 eStr (fun s => s.length ≤ 9223372036854775807) := o_str (by kernel_rfl)
theorem o_Int : Opens H en0 W 3 eInt (fun n => IntKind.i64.min ≤ n ∧ n ≤ IntKind.i64.max) := o_i64
theorem o_End : Opens H en0 W 146 eEnd (fun _ => True) :=
  (opens_struct (by kernel_rfl : structOf 146 = some (2, [(0, 3), (1, 4)])) (fs_cons o_i64 (by kernel_rfl : Tryz.prog.cellsOf 3 = 1) (fs_cons o_b (by kernel_rfl : Tryz.prog.cellsOf 4 = 1) (fs_nil)))).map (fun p => ⟨p.1, p.2.1⟩) (fun _ => rfl) (fun _ _ => trivial)
theorem o_Regs : Opens H en0 W 142 (fun r : Int × Int × Int × Int × Int × Int × Int × Int => [.int .u32 r.1, .int .u32 r.2.1, .int .u32 r.2.2.1, .int .u32 r.2.2.2.1, .int .u32 r.2.2.2.2.1, .int .u32 r.2.2.2.2.2.1, .int .u32 r.2.2.2.2.2.2.1, .int .u32 r.2.2.2.2.2.2.2]) (fun _ => True) :=
  (opens_arr (by kernel_rfl : arrOf 142 = some (8, [(0, 70), (1, 70), (2, 70), (3, 70), (4, 70), (5, 70), (6, 70), (7, 70)])) (fs_cons o_u32 (by kernel_rfl : Tryz.prog.cellsOf 70 = 1) (fs_cons o_u32 (by kernel_rfl : Tryz.prog.cellsOf 70 = 1) (fs_cons o_u32 (by kernel_rfl : Tryz.prog.cellsOf 70 = 1) (fs_cons o_u32 (by kernel_rfl : Tryz.prog.cellsOf 70 = 1) (fs_cons o_u32 (by kernel_rfl : Tryz.prog.cellsOf 70 = 1) (fs_cons o_u32 (by kernel_rfl : Tryz.prog.cellsOf 70 = 1) (fs_cons o_u32 (by kernel_rfl : Tryz.prog.cellsOf 70 = 1) (fs_cons o_u32 (by kernel_rfl : Tryz.prog.cellsOf 70 = 1) (fs_nil)))))))))).map (fun p => (p.1, p.2.1, p.2.2.1, p.2.2.2.1, p.2.2.2.2.1, p.2.2.2.2.2.1, p.2.2.2.2.2.2.1, p.2.2.2.2.2.2.2.1)) (fun _ => rfl) (fun _ _ => trivial)
theorem o_Cpu : Opens H en0 W 144 eCpu (fun _ => True) :=
  (opens_struct (by kernel_rfl : structOf 144 = some (9, [(0, 142), (8, 70)])) (fs_cons o_Regs (by kernel_rfl : Tryz.prog.cellsOf 142 = 8) (fs_cons o_u32 (by kernel_rfl : Tryz.prog.cellsOf 70 = 1) (fs_nil)))).map (fun p => ⟨p.1.1, p.1.2.1, p.1.2.2.1, p.1.2.2.2.1, p.1.2.2.2.2.1, p.1.2.2.2.2.2.1, p.1.2.2.2.2.2.2.1, p.1.2.2.2.2.2.2.2, p.2.1⟩) (fun _ => rfl) (fun _ _ => trivial)
theorem o_Fds : Opens H en0 W 147 (fun r : End × End × End × End => eEnd r.1 ++ eEnd r.2.1 ++ eEnd r.2.2.1 ++ eEnd r.2.2.2) (fun _ => True) :=
  (opens_arr (by kernel_rfl : arrOf 147 = some (8, [(0, 146), (2, 146), (4, 146), (6, 146)])) (fs_cons o_End (by kernel_rfl : Tryz.prog.cellsOf 146 = 2) (fs_cons o_End (by kernel_rfl : Tryz.prog.cellsOf 146 = 2) (fs_cons o_End (by kernel_rfl : Tryz.prog.cellsOf 146 = 2) (fs_cons o_End (by kernel_rfl : Tryz.prog.cellsOf 146 = 2) (fs_nil)))))).map (fun p => (p.1, p.2.1, p.2.2.1, p.2.2.2.1)) (fun _ => rfl) (fun _ _ => trivial)
theorem o_Sy : Opens H en0 W 149 eSy (fun _ => True) :=
  (opens_struct (by kernel_rfl : structOf 149 = some (4, [(0, 70), (1, 70), (2, 70), (3, 70)])) (fs_cons o_u32 (by kernel_rfl : Tryz.prog.cellsOf 70 = 1) (fs_cons o_u32 (by kernel_rfl : Tryz.prog.cellsOf 70 = 1) (fs_cons o_u32 (by kernel_rfl : Tryz.prog.cellsOf 70 = 1) (fs_cons o_u32 (by kernel_rfl : Tryz.prog.cellsOf 70 = 1) (fs_nil)))))).map (fun p => ⟨p.1, p.2.1, p.2.2.1, p.2.2.2.1⟩) (fun _ => rfl) (fun _ _ => trivial)
theorem o_Proc : Opens H en0 W 151 eProc (fun _ => True) :=
  (opens_struct (by kernel_rfl : structOf 151 = some (26, [(0, 3), (1, 3), (2, 3), (3, 144), (12, 9), (13, 3), (14, 147), (22, 149)])) (fs_cons o_i64 (by kernel_rfl : Tryz.prog.cellsOf 3 = 1) (fs_cons o_i64 (by kernel_rfl : Tryz.prog.cellsOf 3 = 1) (fs_cons o_i64 (by kernel_rfl : Tryz.prog.cellsOf 3 = 1) (fs_cons o_Cpu (by kernel_rfl : Tryz.prog.cellsOf 144 = 9) (fs_cons o_s (by kernel_rfl : Tryz.prog.cellsOf 9 = 1) (fs_cons o_i64 (by kernel_rfl : Tryz.prog.cellsOf 3 = 1) (fs_cons o_Fds (by kernel_rfl : Tryz.prog.cellsOf 147 = 8) (fs_cons o_Sy (by kernel_rfl : Tryz.prog.cellsOf 149 = 4) (fs_nil)))))))))).map (fun p => ⟨p.1, p.2.1, p.2.2.1, p.2.2.2.1, p.2.2.2.2.1, p.2.2.2.2.2.1, p.2.2.2.2.2.2.1.1, p.2.2.2.2.2.2.1.2.1, p.2.2.2.2.2.2.1.2.2.1, p.2.2.2.2.2.2.1.2.2.2, p.2.2.2.2.2.2.2.1⟩) (fun _ => rfl) (fun _ _ => trivial)
theorem o_Ints : Opens H en0 W 23 (fun l => [sl (eInt) l]) (fun l => l.length ≤ 9223372036854775807 ∧ ∀ x ∈ l, (fun _ => True) x) := opens_sl (by kernel_rfl : sliceOf 23 = some (3, 1)) (o_Int.imp fun _ _ => trivial) (fun _ => rfl) (fun _ => by kernel_rfl)
theorem o_Turn : Opens H en0 W 25 eTurn (fun t => fits t.l) :=
  (opens_struct (by kernel_rfl : structOf 25 = some (2, [(0, 23), (1, 3)])) (fs_cons o_Ints (by kernel_rfl : Tryz.prog.cellsOf 23 = 1) (fs_cons o_i64 (by kernel_rfl : Tryz.prog.cellsOf 3 = 1) (fs_nil)))).map (fun p => ⟨p.1, p.2.1⟩) (fun _ => rfl) (fun _ h => h.1.1)
theorem o_Alarm : Opens H en0 W 86 eAlarm (fun _ => True) :=
  (opens_struct (by kernel_rfl : structOf 86 = some (2, [(0, 31), (1, 3)])) (fs_cons o_u64 (by kernel_rfl : Tryz.prog.cellsOf 31 = 1) (fs_cons o_i64 (by kernel_rfl : Tryz.prog.cellsOf 3 = 1) (fs_nil)))).map (fun p => ⟨p.1, p.2.1⟩) (fun _ => rfl) (fun _ _ => trivial)
theorem o_Pipe : Opens H en0 W 88 ePipe (fun _ => True) :=
  (opens_struct (by kernel_rfl : structOf 88 = some (3, [(0, 9), (1, 3), (2, 3)])) (fs_cons o_s (by kernel_rfl : Tryz.prog.cellsOf 9 = 1) (fs_cons o_i64 (by kernel_rfl : Tryz.prog.cellsOf 3 = 1) (fs_cons o_i64 (by kernel_rfl : Tryz.prog.cellsOf 3 = 1) (fs_nil))))).map (fun p => ⟨p.1, p.2.1, p.2.2.1⟩) (fun _ => rfl) (fun _ _ => trivial)
theorem o_Span : Opens H en0 W 91 eSpan (fun _ => True) :=
  (opens_struct (by kernel_rfl : structOf 91 = some (3, [(0, 3), (1, 3), (2, 3)])) (fs_cons o_i64 (by kernel_rfl : Tryz.prog.cellsOf 3 = 1) (fs_cons o_i64 (by kernel_rfl : Tryz.prog.cellsOf 3 = 1) (fs_cons o_i64 (by kernel_rfl : Tryz.prog.cellsOf 3 = 1) (fs_nil))))).map (fun p => ⟨p.1, p.2.1, p.2.2.1⟩) (fun _ => rfl) (fun _ _ => trivial)
theorem o_Spans : Opens H en0 W 28 (fun l => [sl (eSpan) l]) (fun l => l.length ≤ 9223372036854775807 ∧ ∀ x ∈ l, (fun _ => True) x) := opens_sl (by kernel_rfl : sliceOf 28 = some (91, 3)) o_Span (fun _ => rfl) (fun _ => by kernel_rfl)
theorem o_Heap : Opens H en0 W 30 eHeap (fun h => fits h.l) :=
  (opens_struct (by kernel_rfl : structOf 30 = some (2, [(0, 3), (1, 28)])) (fs_cons o_i64 (by kernel_rfl : Tryz.prog.cellsOf 3 = 1) (fs_cons o_Spans (by kernel_rfl : Tryz.prog.cellsOf 28 = 1) (fs_nil)))).map (fun p => ⟨p.1, p.2.1⟩) (fun _ => rfl) (fun _ h => h.2.1.1)
theorem o_Chan : Opens H en0 W 94 eChan (fun _ => True) :=
  (opens_struct (by kernel_rfl : structOf 94 = some (5, [(0, 3), (1, 3), (2, 3), (3, 3), (4, 3)])) (fs_cons o_i64 (by kernel_rfl : Tryz.prog.cellsOf 3 = 1) (fs_cons o_i64 (by kernel_rfl : Tryz.prog.cellsOf 3 = 1) (fs_cons o_i64 (by kernel_rfl : Tryz.prog.cellsOf 3 = 1) (fs_cons o_i64 (by kernel_rfl : Tryz.prog.cellsOf 3 = 1) (fs_cons o_i64 (by kernel_rfl : Tryz.prog.cellsOf 3 = 1) (fs_nil))))))).map (fun p => ⟨p.1, p.2.1, p.2.2.1, p.2.2.2.1, p.2.2.2.2.1⟩) (fun _ => rfl) (fun _ _ => trivial)
theorem o_Msg : Opens H en0 W 157 eMsg (fun _ => True) :=
  (opens_struct (by kernel_rfl : structOf 157 = some (2, [(0, 31), (1, 9)])) (fs_cons o_u64 (by kernel_rfl : Tryz.prog.cellsOf 31 = 1) (fs_cons o_s (by kernel_rfl : Tryz.prog.cellsOf 9 = 1) (fs_nil)))).map (fun p => ⟨p.1, p.2.1⟩) (fun _ => rfl) (fun _ _ => trivial)
theorem o_Msgs : Opens H en0 W 82 (fun l => [sl (eMsg) l]) (fun l => l.length ≤ 9223372036854775807 ∧ ∀ x ∈ l, (fun _ => True) x) := opens_sl (by kernel_rfl : sliceOf 82 = some (157, 2)) o_Msg (fun _ => rfl) (fun _ => by kernel_rfl)
theorem o_Box : Opens H en0 W 84 eBox (fun b => fits b.l) :=
  (opens_struct (by kernel_rfl : structOf 84 = some (2, [(0, 82), (1, 3)])) (fs_cons o_Msgs (by kernel_rfl : Tryz.prog.cellsOf 82 = 1) (fs_cons o_i64 (by kernel_rfl : Tryz.prog.cellsOf 3 = 1) (fs_nil)))).map (fun p => ⟨p.1, p.2.1⟩) (fun _ => rfl) (fun _ h => h.1.1)
theorem o_Event : Opens H en0 W 72 eEvent (fun _ => True) :=
  (opens_struct (by kernel_rfl : structOf 72 = some (4, [(0, 3), (1, 70), (2, 70), (3, 31)])) (fs_cons o_i64 (by kernel_rfl : Tryz.prog.cellsOf 3 = 1) (fs_cons o_u32 (by kernel_rfl : Tryz.prog.cellsOf 70 = 1) (fs_cons o_u32 (by kernel_rfl : Tryz.prog.cellsOf 70 = 1) (fs_cons o_u64 (by kernel_rfl : Tryz.prog.cellsOf 31 = 1) (fs_nil)))))).map (fun p => ⟨p.1, p.2.1, p.2.2.1, p.2.2.2.1⟩) (fun _ => rfl) (fun _ _ => trivial)
theorem o_Out : Opens H en0 W 97 eOut (fun _ => True) :=
  (opens_struct (by kernel_rfl : structOf 97 = some (2, [(0, 3), (1, 9)])) (fs_cons o_i64 (by kernel_rfl : Tryz.prog.cellsOf 3 = 1) (fs_cons o_s (by kernel_rfl : Tryz.prog.cellsOf 9 = 1) (fs_nil)))).map (fun p => ⟨p.1, p.2.1⟩) (fun _ => rfl) (fun _ _ => trivial)
theorem o_Procs : Opens H en0 W 22 (fun l => [sl (eProc) l]) (fun l => l.length ≤ 9223372036854775807 ∧ ∀ x ∈ l, (fun _ => True) x) := opens_sl (by kernel_rfl : sliceOf 22 = some (151, 26)) o_Proc (fun _ => rfl) (fun _ => by kernel_rfl)
theorem o_Alarms : Opens H en0 W 26 (fun l => [sl (eAlarm) l]) (fun l => l.length ≤ 9223372036854775807 ∧ ∀ x ∈ l, (fun _ => True) x) := opens_sl (by kernel_rfl : sliceOf 26 = some (86, 2)) o_Alarm (fun _ => rfl) (fun _ => by kernel_rfl)
theorem o_Pipes : Opens H en0 W 27 (fun l => [sl (ePipe) l]) (fun l => l.length ≤ 9223372036854775807 ∧ ∀ x ∈ l, (fun _ => True) x) := opens_sl (by kernel_rfl : sliceOf 27 = some (88, 3)) o_Pipe (fun _ => rfl) (fun _ => by kernel_rfl)
theorem o_Strs : Opens H en0 W 32 (fun l => [sl (eStr) l]) (fun l => l.length ≤ 9223372036854775807 ∧ ∀ x ∈ l, (fun _ => True) x) := opens_sl (by kernel_rfl : sliceOf 32 = some (9, 1)) (o_s.imp fun _ _ => trivial) (fun _ => rfl) (fun _ => by kernel_rfl)
theorem o_Chans : Opens H en0 W 33 (fun l => [sl (eChan) l]) (fun l => l.length ≤ 9223372036854775807 ∧ ∀ x ∈ l, (fun _ => True) x) := opens_sl (by kernel_rfl : sliceOf 33 = some (94, 5)) o_Chan (fun _ => rfl) (fun _ => by kernel_rfl)
theorem o_Boxes : Opens H en0 W 34 (fun l => [sl (eBox) l]) (fun l => l.length ≤ 9223372036854775807 ∧ ∀ x ∈ l, (fun b => fits b.l) x) := opens_sl (by kernel_rfl : sliceOf 34 = some (84, 2)) o_Box (fun _ => rfl) (fun _ => by kernel_rfl)
theorem o_Events : Opens H en0 W 35 (fun l => [sl (eEvent) l]) (fun l => l.length ≤ 9223372036854775807 ∧ ∀ x ∈ l, (fun _ => True) x) := opens_sl (by kernel_rfl : sliceOf 35 = some (72, 4)) o_Event (fun _ => rfl) (fun _ => by kernel_rfl)
theorem o_Outs : Opens H en0 W 36 (fun l => [sl (eOut) l]) (fun l => l.length ≤ 9223372036854775807 ∧ ∀ x ∈ l, (fun _ => True) x) := opens_sl (by kernel_rfl : sliceOf 36 = some (97, 2)) o_Out (fun _ => rfl) (fun _ => by kernel_rfl)
theorem o_Kern : Opens H en0 W 38 eKern (FitKern) :=
  (opens_struct (by kernel_rfl : structOf 38 = some (17, [(0, 22), (1, 25), (3, 26), (4, 27), (5, 30), (7, 31), (8, 32), (9, 33), (10, 33), (11, 34), (12, 9), (13, 35), (14, 36), (15, 3), (16, 3)])) (fs_cons o_Procs (by kernel_rfl : Tryz.prog.cellsOf 22 = 1) (fs_cons o_Turn (by kernel_rfl : Tryz.prog.cellsOf 25 = 2) (fs_cons o_Alarms (by kernel_rfl : Tryz.prog.cellsOf 26 = 1) (fs_cons o_Pipes (by kernel_rfl : Tryz.prog.cellsOf 27 = 1) (fs_cons o_Heap (by kernel_rfl : Tryz.prog.cellsOf 30 = 2) (fs_cons o_u64 (by kernel_rfl : Tryz.prog.cellsOf 31 = 1) (fs_cons o_Strs (by kernel_rfl : Tryz.prog.cellsOf 32 = 1) (fs_cons o_Chans (by kernel_rfl : Tryz.prog.cellsOf 33 = 1) (fs_cons o_Chans (by kernel_rfl : Tryz.prog.cellsOf 33 = 1) (fs_cons o_Boxes (by kernel_rfl : Tryz.prog.cellsOf 34 = 1) (fs_cons o_s (by kernel_rfl : Tryz.prog.cellsOf 9 = 1) (fs_cons o_Events (by kernel_rfl : Tryz.prog.cellsOf 35 = 1) (fs_cons o_Outs (by kernel_rfl : Tryz.prog.cellsOf 36 = 1) (fs_cons o_i64 (by kernel_rfl : Tryz.prog.cellsOf 3 = 1) (fs_cons o_i64 (by kernel_rfl : Tryz.prog.cellsOf 3 = 1) (fs_nil))))))))))))))))).map (fun p => ⟨p.1, p.2.1, p.2.2.1, p.2.2.2.1, p.2.2.2.2.1, p.2.2.2.2.2.1, p.2.2.2.2.2.2.1, p.2.2.2.2.2.2.2.1, p.2.2.2.2.2.2.2.2.1, p.2.2.2.2.2.2.2.2.2.1, p.2.2.2.2.2.2.2.2.2.2.1, p.2.2.2.2.2.2.2.2.2.2.2.1, p.2.2.2.2.2.2.2.2.2.2.2.2.1, p.2.2.2.2.2.2.2.2.2.2.2.2.2.1, p.2.2.2.2.2.2.2.2.2.2.2.2.2.2.1⟩) (fun _ => rfl) (fun _ h => ⟨h.1.1, h.2.1, h.2.2.1.1, h.2.2.2.1.1, h.2.2.2.2.1, h.2.2.2.2.2.2.1.1, h.2.2.2.2.2.2.2.1.1, h.2.2.2.2.2.2.2.2.1.1, h.2.2.2.2.2.2.2.2.2.1.1, h.2.2.2.2.2.2.2.2.2.1.2, h.2.2.2.2.2.2.2.2.2.2.2.1.1, h.2.2.2.2.2.2.2.2.2.2.2.2.1.1⟩)
theorem o_Seat : Opens H en0 W 63 eSeat (fun s => FitKern s.k) :=
  (opens_struct (by kernel_rfl : structOf 63 = some (19, [(0, 38), (17, 3), (18, 3)])) (fs_cons o_Kern (by kernel_rfl : Tryz.prog.cellsOf 38 = 17) (fs_cons o_i64 (by kernel_rfl : Tryz.prog.cellsOf 3 = 1) (fs_cons o_i64 (by kernel_rfl : Tryz.prog.cellsOf 3 = 1) (fs_nil))))).map (fun p => ⟨p.1, p.2.1, p.2.2.1⟩) (fun _ => rfl) (fun _ h => h.1)
theorem o_Act : Opens H en0 W 98 (fun r : Int × Int × Int => [.int .i64 r.1, .int .i64 r.2.1, .int .i64 r.2.2]) (fun _ => True) :=
  (opens_arr (by kernel_rfl : arrOf 98 = some (3, [(0, 3), (1, 3), (2, 3)])) (fs_cons o_i64 (by kernel_rfl : Tryz.prog.cellsOf 3 = 1) (fs_cons o_i64 (by kernel_rfl : Tryz.prog.cellsOf 3 = 1) (fs_cons o_i64 (by kernel_rfl : Tryz.prog.cellsOf 3 = 1) (fs_nil))))).map (fun p => (p.1, p.2.1, p.2.2.1)) (fun _ => rfl) (fun _ _ => trivial)
theorem o_Part : Opens H en0 W 100 ePart (fun _ => True) :=
  (opens_struct (by kernel_rfl : structOf 100 = some (4, [(0, 3), (1, 98)])) (fs_cons o_i64 (by kernel_rfl : Tryz.prog.cellsOf 3 = 1) (fs_cons o_Act (by kernel_rfl : Tryz.prog.cellsOf 98 = 3) (fs_nil)))).map (fun p => ⟨p.1, p.2.1.1, p.2.1.2.1, p.2.1.2.2⟩) (fun _ => rfl) (fun _ _ => trivial)
theorem o_Win : Opens H en0 W 102 eWin (fun _ => True) :=
  (opens_struct (by kernel_rfl : structOf 102 = some (3, [(0, 3), (1, 3), (2, 3)])) (fs_cons o_i64 (by kernel_rfl : Tryz.prog.cellsOf 3 = 1) (fs_cons o_i64 (by kernel_rfl : Tryz.prog.cellsOf 3 = 1) (fs_cons o_i64 (by kernel_rfl : Tryz.prog.cellsOf 3 = 1) (fs_nil))))).map (fun p => ⟨p.1, p.2.1, p.2.2.1⟩) (fun _ => rfl) (fun _ _ => trivial)
theorem o_Parts : Opens H en0 W 41 (fun l => [sl (ePart) l]) (fun l => l.length ≤ 9223372036854775807 ∧ ∀ x ∈ l, (fun _ => True) x) := opens_sl (by kernel_rfl : sliceOf 41 = some (100, 4)) o_Part (fun _ => rfl) (fun _ => by kernel_rfl)
theorem o_Wins : Opens H en0 W 103 (fun l => [sl (eWin) l]) (fun l => l.length ≤ 9223372036854775807 ∧ ∀ x ∈ l, (fun _ => True) x) := opens_sl (by kernel_rfl : sliceOf 103 = some (102, 3)) o_Win (fun _ => rfl) (fun _ => by kernel_rfl)
theorem o_Winss : Opens H en0 W 42 (fun l => [sl (eSl eWin) l]) (fun l => l.length ≤ 9223372036854775807 ∧ ∀ x ∈ l, (fun l : List Win => fits l) x) := opens_sl (by kernel_rfl : sliceOf 42 = some (103, 1)) (o_Wins.imp fun _ h => h.1) (fun _ => rfl) (fun _ => by kernel_rfl)
structure FitPlan (p : Plan) : Prop where
  parts : fits p.parts
  wins : fits p.wins
  each : ∀ l ∈ p.wins, fits l
  chans : fits p.chans
theorem o_Plan : Opens H en0 W 44 ePlan (FitPlan) :=
  (opens_struct (by kernel_rfl : structOf 44 = some (4, [(0, 41), (1, 3), (2, 42), (3, 33)])) (fs_cons o_Parts (by kernel_rfl : Tryz.prog.cellsOf 41 = 1) (fs_cons o_i64 (by kernel_rfl : Tryz.prog.cellsOf 3 = 1) (fs_cons o_Winss (by kernel_rfl : Tryz.prog.cellsOf 42 = 1) (fs_cons o_Chans (by kernel_rfl : Tryz.prog.cellsOf 33 = 1) (fs_nil)))))).map (fun p => ⟨p.1, p.2.1, p.2.2.1, p.2.2.2.1⟩) (fun _ => rfl) (fun _ h => ⟨h.1.1, h.2.2.1.1, h.2.2.1.2, h.2.2.2.1.1⟩)
theorem o_Stamp : Opens H en0 W 125 eStamp (fun _ => True) :=
  (opens_struct (by kernel_rfl : structOf 125 = some (3, [(0, 31), (1, 3), (2, 9)])) (fs_cons o_u64 (by kernel_rfl : Tryz.prog.cellsOf 31 = 1) (fs_cons o_i64 (by kernel_rfl : Tryz.prog.cellsOf 3 = 1) (fs_cons o_s (by kernel_rfl : Tryz.prog.cellsOf 9 = 1) (fs_nil))))).map (fun p => ⟨p.1, p.2.1, p.2.2.1⟩) (fun _ => rfl) (fun _ _ => trivial)
theorem o_Stamps : Opens H en0 W 112 (fun l => [sl (eStamp) l]) (fun l => l.length ≤ 9223372036854775807 ∧ ∀ x ∈ l, (fun _ => True) x) := opens_sl (by kernel_rfl : sliceOf 112 = some (125, 3)) o_Stamp (fun _ => rfl) (fun _ => by kernel_rfl)
theorem o_Strss : Opens H en0 W 45 (fun l => [sl (eSl eStr) l]) (fun l => l.length ≤ 9223372036854775807 ∧ ∀ x ∈ l, (fun l : List Str => fits l) x) := opens_sl (by kernel_rfl : sliceOf 45 = some (32, 1)) (o_Strs.imp fun _ h => h.1) (fun _ => rfl) (fun _ => by kernel_rfl)
theorem o_Seats : Opens H en0 W 49 (fun l => [sl (eSeat) l]) (fun l => l.length ≤ 9223372036854775807 ∧ ∀ x ∈ l, (fun s => FitKern s.k) x) := opens_sl (by kernel_rfl : sliceOf 49 = some (63, 19)) o_Seat (fun _ => rfl) (fun _ => by kernel_rfl)
theorem o_Stampss : Opens H en0 W 50 (fun l => [sl (eSl eStamp) l]) (fun l => l.length ≤ 9223372036854775807 ∧ ∀ x ∈ l, (fun l : List Stamp => fits l) x) := opens_sl (by kernel_rfl : sliceOf 50 = some (112, 1)) (o_Stamps.imp fun _ h => h.1) (fun _ => rfl) (fun _ => by kernel_rfl)
structure FitSys (s : Sys) : Prop where
  p : FitPlan s.p
  images : fits s.images
  each : ∀ l ∈ s.images, fits l
  seats : fits s.seats
  kerns : ∀ x ∈ s.seats, FitKern x.k
  arrived : fits s.arrived
  stamps : ∀ l ∈ s.arrived, fits l
theorem o_Sys : Opens H en0 W 52 eSys (FitSys) :=
  (opens_struct (by kernel_rfl : structOf 52 = some (11, [(0, 44), (4, 45), (5, 31), (6, 3), (7, 3), (8, 49), (9, 50), (10, 3)])) (fs_cons o_Plan (by kernel_rfl : Tryz.prog.cellsOf 44 = 4) (fs_cons o_Strss (by kernel_rfl : Tryz.prog.cellsOf 45 = 1) (fs_cons o_u64 (by kernel_rfl : Tryz.prog.cellsOf 31 = 1) (fs_cons o_i64 (by kernel_rfl : Tryz.prog.cellsOf 3 = 1) (fs_cons o_i64 (by kernel_rfl : Tryz.prog.cellsOf 3 = 1) (fs_cons o_Seats (by kernel_rfl : Tryz.prog.cellsOf 49 = 1) (fs_cons o_Stampss (by kernel_rfl : Tryz.prog.cellsOf 50 = 1) (fs_cons o_i64 (by kernel_rfl : Tryz.prog.cellsOf 3 = 1) (fs_nil)))))))))).map (fun p => ⟨p.1, p.2.1, p.2.2.1, p.2.2.2.1, p.2.2.2.2.1, p.2.2.2.2.2.1, p.2.2.2.2.2.2.1, p.2.2.2.2.2.2.2.1⟩) (fun _ => rfl) (fun _ h => ⟨h.1, h.2.1.1, h.2.1.2, h.2.2.2.2.2.1.1, h.2.2.2.2.2.1.2, h.2.2.2.2.2.2.1.1, h.2.2.2.2.2.2.1.2⟩)
end
end Go.Xa
