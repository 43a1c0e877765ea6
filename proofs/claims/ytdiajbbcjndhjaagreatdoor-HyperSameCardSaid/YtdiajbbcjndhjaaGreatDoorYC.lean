/- The library's strings.Repeat, by the shelf's contract. -/
import Derived.Shelf.Strings.Repeat
import Derived.Test.YtdiajbbcjndhjaaGreatDoorYB
namespace Go.Proofs
open Go.Shelf
def Tryz.lays105_ren : Go.Shelf.Ren := ⟨fun | 105 => 170 | 212 => 240 | 99 => 241 | 165 => 242 | 166 => 243 | 170 => 244 | 169 => 245 | 263 => 298 | 264 => 299 | 206 => 300 | 240 => 301 | 241 => 302 | 276 => 320 | 277 => 321 | n => n, fun | 9 => 9 | 3 => 3 | 4 => 4 | 20 => 20 | 0 => 0 | 46 => 295 | 109 => 296 | 5 => 5 | 72 => 301 | 76 => 305 | 51 => 70 | 146 => 341 | 53 => 31 | 148 => 343 | 70 => 299 | 37 => 193 | 75 => 304 | 127 => 345 | 164 => 362 | 80 => 308 | n => n, fun | n => n⟩
theorem Tryz.lays105 : Go.Proofs.Lays.n105 Tryz.prog Tryz.lays105_ren := {
  mixed := by kernel_rfl
  f99 := Tryz.func241.trans (congrArg some (by kernel_rfl))
  f105 := Tryz.func170.trans (congrArg some (by kernel_rfl))
  f165 := Tryz.func242.trans (congrArg some (by kernel_rfl))
  f166 := Tryz.func243.trans (congrArg some (by kernel_rfl))
  f169 := Tryz.func245.trans (congrArg some (by kernel_rfl))
  f170 := Tryz.func244.trans (congrArg some (by kernel_rfl))
  f206 := Tryz.func300.trans (congrArg some (by kernel_rfl))
  f212 := Tryz.func240.trans (congrArg some (by kernel_rfl))
  f240 := Tryz.func301.trans (congrArg some (by kernel_rfl))
  f241 := Tryz.func302.trans (congrArg some (by kernel_rfl))
  f263 := Tryz.func298.trans (congrArg some (by kernel_rfl))
  f264 := Tryz.func299.trans (congrArg some (by kernel_rfl))
  f276 := Tryz.func320.trans (congrArg some (by kernel_rfl))
  f277 := Tryz.func321.trans (congrArg some (by kernel_rfl))
  t0 := Tryz.underlying0
  a0 := Tryz.isAgg0
  z0 := Tryz.sizeOf0
  v0 := Tryz.zeroValue0
  t3 := Tryz.underlying3
  a3 := Tryz.isAgg3
  z3 := Tryz.sizeOf3
  v3 := Tryz.zeroValue3
  t4 := Tryz.underlying4
  a4 := Tryz.isAgg4
  z4 := Tryz.sizeOf4
  v4 := Tryz.zeroValue4
  t5 := Tryz.underlying5
  a5 := Tryz.isAgg5
  z5 := Tryz.sizeOf5
  v5 := Tryz.zeroValue5
  t9 := Tryz.underlying9
  a9 := Tryz.isAgg9
  z9 := Tryz.sizeOf9
  v9 := Tryz.zeroValue9
  t20 := Tryz.underlying20
  a20 := Tryz.isAgg20
  z20 := Tryz.sizeOf20
  v20 := Tryz.zeroValue20
  t37 := Tryz.underlying193
  a37 := Tryz.isAgg193
  z37 := Tryz.sizeOf193
  v37 := Tryz.zeroValue193
  t46 := Tryz.underlying295
  a46 := Tryz.isAgg295
  z46 := Tryz.sizeOf295
  v46 := Tryz.zeroValue295
  t51 := Tryz.underlying70
  a51 := Tryz.isAgg70
  z51 := Tryz.sizeOf70
  v51 := Tryz.zeroValue70
  t53 := Tryz.underlying31
  a53 := Tryz.isAgg31
  z53 := Tryz.sizeOf31
  v53 := Tryz.zeroValue31
  t70 := Tryz.underlying299
  a70 := Tryz.isAgg299
  z70 := Tryz.sizeOf299
  v70 := Tryz.zeroValue299
  t72 := Tryz.underlying301
  a72 := Tryz.isAgg301
  z72 := Tryz.sizeOf301
  v72 := Tryz.zeroValue301
  t75 := Tryz.underlying304
  a75 := Tryz.isAgg304
  z75 := Tryz.sizeOf304
  v75 := Tryz.zeroValue304
  t76 := Tryz.underlying305
  a76 := Tryz.isAgg305
  z76 := Tryz.sizeOf305
  v76 := Tryz.zeroValue305
  t109 := Tryz.underlying296
  a109 := Tryz.isAgg296
  z109 := Tryz.sizeOf296
  v109 := Tryz.zeroValue296
  t127 := Tryz.underlying345
  a127 := Tryz.isAgg345
  z127 := Tryz.sizeOf345
  v127 := Tryz.zeroValue345
  t146 := Tryz.underlying341
  a146 := Tryz.isAgg341
  z146 := Tryz.sizeOf341
  v146 := Tryz.zeroValue341
  t148 := Tryz.underlying343
  a148 := Tryz.isAgg343
  z148 := Tryz.sizeOf343
  v148 := Tryz.zeroValue343
  t164 := Tryz.underlying362
  a164 := Tryz.isAgg362
  z164 := Tryz.sizeOf362
  v164 := Tryz.zeroValue362 }
theorem Tryz.Builder_Extra_105 : Builder.Extra Tryz.prog Tryz.lays105_ren := {
  sizeBuilder := by kernel_rfl
  liesBuilder := by kernel_rfl
  t5 := Tryz.underlying5
  a5 := Tryz.isAgg5
  z5 := Tryz.sizeOf5
  v5 := Tryz.zeroValue5
  infoByte := by kernel_rfl
  cellsByte := by kernel_rfl
  sizeByte := by kernel_rfl
  neB5 := by decide }
open Go.RowKit Go.Lib in
theorem Tryz.strings_Repeat (s : ByteArray) (c : Nat) (w : World) (hc : c ≤ 9223372036854775807) (hlen : s.size * c ≤ 140737488355328) :
    Calls Tryz.prog 170 #[.string s, .int .i64 c] w fun e w' => e = .returned (.string ⟨(Lib.repeatL s.data.toList c).toArray⟩) ∧ Below w.heap.size w w' := Any.strings_Repeat Tryz.lays105 Tryz.Builder_Extra_105 s c w hc hlen
end Go.Proofs
namespace Go.Xa
open Go.RowKit Go.Proofs

theorem callsIn_wide {P : Program} {f : FuncId} {args : Array Value} {w : World} {R : Ending → World → Prop} (h : Calls P f args w R) (hR : ∀ e w', R e w' → ∃ v, e = .returned v) : CallsIn (Wide none) 0 P f args w R := by
  refine ⟨trivial, fun cs _ => ?_⟩
  obtain ⟨e, w', fr, r, c, x⟩ := h cs
  obtain ⟨v, rfl⟩ := hR e w' r
  exact ⟨_, w', fr, r, stepsIn_wide.2 c, x⟩
theorem good_below {M : Mem} {β : Bt} {h : List Blk} {w w' : World} (H : HOk M β h w) (hb : Below w.heap.size w w') : Good M β w M β w' ∧ HOk M β h w' := by
  have hext : WExt Bt.none w w' := ⟨hb.os, hb.tape, hb.output, hb.size, fun k hk _ => hb.block k hk⟩
  have ha : ∀ b o, M b = some o → w'.heap[b]? = some o := fun b o hm => by
    have h1 := H.agree b o hm
    rw [hb.block b (Array.getElem?_eq_some_iff.1 h1).1]; exact h1
  exact ⟨Good.quiet (Mle.refl M) (fun _ h => .inl h) hext, H.later (Mle.refl M) (fun _ h => .inl h) ha hext⟩
theorem repeat_ok (s : List UInt8) (c : Nat) (hc : c ≤ 9223372036854775807) (hlen : s.length * c ≤ 140737488355328) : QCall Tryz.prog wd 170 [.str s, .int .i64 c] (.val (.str (Lib.repeatL s c))) := by
  refine ⟨⟨Tryz.f170, Tryz.func170, by kernel_rfl, by kernel_rfl⟩, fun M β h w vs ν hG H hs hv => ?_⟩
  obtain ⟨v0, v1, rfl⟩ : ∃ v0 v1, vs = #[v0, v1] := by
    have := hv.1
    refine ⟨vs[0]'(by simp_all), vs[1]'(by simp_all), ?_⟩
    apply Array.ext
    · simpa using this
    · intro i h1 h2
      have : i = 0 ∨ i = 1 := by simp at h2; omega
      rcases this with rfl | rfl <;> rfl
  have r0 := hv.2 0 v0 _ rfl rfl
  have r1 := hv.2 1 v1 _ rfl rfl
  cases r1
  cases r0 with
  | str hs0 =>
  rename_i b
  refine CallsIn.mono (callsIn_wide (Tryz.strings_Repeat b c w hc (by rw [Lib.size_eq, hs0]; exact hlen)) fun e w' he => ⟨_, he.1⟩) ?_
  rintro e w' ⟨rfl, hb⟩
  obtain ⟨g, H'⟩ := good_below H hb
  exact ⟨_, M, β, rfl, g, fun _ _ => rfl, H', .str (by rw [hs0])⟩
def known : FuncId → List D → Option QR
  | 170, [.str s, .int .i64 n] => if 0 ≤ n ∧ n ≤ 1024 ∧ s.length ≤ 1024 then some (.val (.str (Lib.repeatL s n.toNat))) else none
  | _, _ => none
theorem known_ok (f : FuncId) (args : List D) (q : QR) (h : known f args = some q) : QCall Tryz.prog wd f args q := by
  unfold known at h
  split at h
  · split at h
    · rename_i hc
      cases h
      rename_i s n
      obtain ⟨h1, h2, h3⟩ := hc
      obtain ⟨m, rfl⟩ := Int.eq_ofNat_of_zero_le h1
      have hm : m ≤ 1024 := by omega
      refine repeat_ok s m (by omega) (Nat.le_trans (Nat.mul_le_mul h3 hm) (by omega))
    · cases h
  · cases h
noncomputable def r0 : R := { R.bot with quiet := known }
theorem r0_ok : ROk Tryz.prog wd r0 := ⟨(bot_ok _ _).run, (bot_ok _ _).call, known_ok⟩
end Go.Xa
