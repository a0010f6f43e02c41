/- Contracts of the program's functions, as the walks of the law use them. -/
import Derived.Shelf.Slices.Turned
import Derived.Test.YtbjeejimedhniaaGreatDoorProg
import Derived.Shelf.Strconv.Itoa3
import Derived.Test.YtbjeejimedhniaaGreatDoorC14
import Derived.Test.YtbjeejimedhniaaGreatDoorC2
import Derived.Test.YtbjeejimedhniaaGreatDoorC8
import Derived.Test.YtbjeejimedhniaaGreatDoorC9
import Derived.Test.YtbjeejimedhniaaGreatDoorC1
import Derived.Deep.RegionLaw
namespace Go.Proofs
open Go.Shelf
def Tryz.lays110_ren : Go.Shelf.Ren := ⟨fun | 110 => 67 | 109 => 145 | n => n, fun | 31 => 126 | 9 => 9 | 4 => 4 | 3 => 3 | 0 => 0 | n => n, fun | n => n⟩
theorem Tryz.lays110 : Go.Proofs.Lays.n110 Tryz.prog Tryz.lays110_ren := {
  mixed := by kernel_rfl
  f109 := Tryz.func145.trans (congrArg some (by kernel_rfl))
  f110 := Tryz.func67.trans (congrArg some (by kernel_rfl))
  t0 := Tryz.underlying0
  a0 := Tryz.isAgg0
  z0 := Tryz.sizeOf0
  v0 := Tryz.zeroValue0
  t3 := Tryz.underlying3
  a3 := Tryz.isAgg3
  z3 := Tryz.sizeOf3
  v3 := Tryz.zeroValue3
  t4 := Tryz.underlying4
  a4 := Tryz.isAgg4
  z4 := Tryz.sizeOf4
  v4 := Tryz.zeroValue4
  t9 := Tryz.underlying9
  a9 := Tryz.isAgg9
  z9 := Tryz.sizeOf9
  v9 := Tryz.zeroValue9
  t31 := Tryz.underlying126
  a31 := Tryz.isAgg126
  z31 := Tryz.sizeOf126
  v31 := Tryz.zeroValue126 }
open Go.Lib in
theorem Tryz.slices_Contains_string (b off n c : Nat) (zs : List ByteArray) (x : ByteArray) (w : World) (hz : n ≤ zs.length) (hbig : n ≤ 9223372036854775807) (hc : ∀ j, j < zs.length → w.cell? ⟨b, off + j, none⟩ = some (.string (zs.getD j ByteArray.empty))) :
    Calls Tryz.prog 67 #[.slice (some ⟨b, off, none⟩) n c, .string x] w fun e w' => e = .returned (.bool (Lib.containsS (zs.take n) x)) ∧ w' = w := Any.slices_Contains_string Tryz.lays110 b off n c zs x w hz hbig hc
open Go.Lib in
theorem Tryz.slices_Contains_string_empty (a : Option Addr) (c : Nat) (x : ByteArray) (w : World) :
    Calls Tryz.prog 67 #[.slice a 0 c, .string x] w fun e w' => e = .returned (.bool false) ∧ w' = w := Any.slices_Contains_string_empty Tryz.lays110 a c x w
end Go.Proofs
namespace Go.Proofs
open Go.Shelf
def Tryz.lays171_ren : Go.Shelf.Ren := ⟨fun | 171 => 126 | 243 => 227 | 246 => 305 | 283 => 342 | 284 => 343 | 285 => 344 | 286 => 345 | 129 => 318 | 317 => 368 | 318 => 369 | 319 => 370 | 320 => 371 | 337 => 399 | 338 => 400 | n => n, fun | 3 => 3 | 9 => 9 | 2 => 2 | 4 => 4 | 171 => 402 | 0 => 0 | 53 => 115 | 37 => 120 | 5 => 5 | 173 => 404 | 212 => 427 | 51 => 23 | 20 => 20 | 213 => 428 | 46 => 347 | 232 => 470 | 233 => 471 | n => n, fun | 17 => 3 | 18 => 6 | 19 => 7 | n => n⟩
theorem Tryz.lays171 : Go.Proofs.Lays.n171 Tryz.prog Tryz.lays171_ren := {
  mixed := by kernel_rfl
  f129 := Tryz.func318.trans (congrArg some (by kernel_rfl))
  f171 := Tryz.func126.trans (congrArg some (by kernel_rfl))
  f243 := Tryz.func227.trans (congrArg some (by kernel_rfl))
  f246 := Tryz.func305.trans (congrArg some (by kernel_rfl))
  f283 := Tryz.func342.trans (congrArg some (by kernel_rfl))
  f284 := Tryz.func343.trans (congrArg some (by kernel_rfl))
  f285 := Tryz.func344.trans (congrArg some (by kernel_rfl))
  f286 := Tryz.func345.trans (congrArg some (by kernel_rfl))
  f317 := Tryz.func368.trans (congrArg some (by kernel_rfl))
  f318 := Tryz.func369.trans (congrArg some (by kernel_rfl))
  f319 := Tryz.func370.trans (congrArg some (by kernel_rfl))
  f320 := Tryz.func371.trans (congrArg some (by kernel_rfl))
  f337 := Tryz.func399.trans (congrArg some (by kernel_rfl))
  f338 := Tryz.func400.trans (congrArg some (by kernel_rfl))
  t0 := Tryz.underlying0
  a0 := Tryz.isAgg0
  z0 := Tryz.sizeOf0
  v0 := Tryz.zeroValue0
  t2 := Tryz.underlying2
  a2 := Tryz.isAgg2
  z2 := Tryz.sizeOf2
  v2 := Tryz.zeroValue2
  t3 := Tryz.underlying3
  a3 := Tryz.isAgg3
  z3 := Tryz.sizeOf3
  v3 := Tryz.zeroValue3
  t4 := Tryz.underlying4
  a4 := Tryz.isAgg4
  z4 := Tryz.sizeOf4
  v4 := Tryz.zeroValue4
  t5 := Tryz.underlying5
  a5 := Tryz.isAgg5
  z5 := Tryz.sizeOf5
  v5 := Tryz.zeroValue5
  t9 := Tryz.underlying9
  a9 := Tryz.isAgg9
  z9 := Tryz.sizeOf9
  v9 := Tryz.zeroValue9
  t20 := Tryz.underlying20
  a20 := Tryz.isAgg20
  z20 := Tryz.sizeOf20
  v20 := Tryz.zeroValue20
  t37 := Tryz.underlying120
  a37 := Tryz.isAgg120
  z37 := Tryz.sizeOf120
  v37 := Tryz.zeroValue120
  t46 := Tryz.underlying347
  a46 := Tryz.isAgg347
  z46 := Tryz.sizeOf347
  v46 := Tryz.zeroValue347
  t51 := Tryz.underlying23
  a51 := Tryz.isAgg23
  z51 := Tryz.sizeOf23
  v51 := Tryz.zeroValue23
  t53 := Tryz.underlying115
  a53 := Tryz.isAgg115
  z53 := Tryz.sizeOf115
  v53 := Tryz.zeroValue115
  t171 := Tryz.underlying402
  a171 := Tryz.isAgg402
  z171 := Tryz.sizeOf402
  v171 := Tryz.zeroValue402
  t173 := Tryz.underlying404
  a173 := Tryz.isAgg404
  z173 := Tryz.sizeOf404
  v173 := Tryz.zeroValue404
  t212 := Tryz.underlying427
  a212 := Tryz.isAgg427
  z212 := Tryz.sizeOf427
  v212 := Tryz.zeroValue427
  t213 := Tryz.underlying428
  a213 := Tryz.isAgg428
  z213 := Tryz.sizeOf428
  t232 := Tryz.underlying470
  a232 := Tryz.isAgg470
  z232 := Tryz.sizeOf470
  v232 := Tryz.zeroValue470
  t233 := Tryz.underlying471
  a233 := Tryz.isAgg471
  z233 := Tryz.sizeOf471
  v233 := Tryz.zeroValue471
  g17 := by kernel_rfl
  g18 := by kernel_rfl
  g19 := by kernel_rfl }
open Go.RowKit Go.Sort Go.Lib in
theorem Tryz.strconv_Itoa_small (i : Nat) (hi : i < 100) (w : World) :
    Calls Tryz.prog 126 #[.int .i64 i] w fun e w' => e = .returned (.string ⟨(Lib.decDigits i).toArray⟩) ∧ w' = w := Any.strconv_Itoa_small Tryz.lays171 i hi w
end Go.Proofs
namespace Go.Proofs.YtbjeejimedhniaaGreatDoor
namespace K34
open Go Go.RowKit Go.Maps
open KB P5 K33
set_option linter.unusedVariables false
set_option linter.unusedSimpArgs false
set_option maxRecDepth 100000
/-- How a name reads as a key. -/
def kl (s : ByteArray) : Lit := .string (keyBytes [.string s.data.toList])
theorem formedW (s : ByteArray) : Value.formed Tryz.prog 211 (.agg #[.string s]) = true := by
  unfold Value.formed
  rw [Tryz.underlying211]
  simp only [cellsW]
  rfl
theorem lits1 (n : Nat) (c : Value) : Tryz.prog.keyLits (n + 1 + 1) 211 [c] = (match c with | .string s => if s.size ≤ maxLen then some [Lit.string s.data.toList] else none | _ => none) := by
  cases c
  case string s =>
    by_cases h2 : s.size ≤ maxLen
    · simp [Program.keyLits, Tryz.underlying211, Tryz.underlying9, cellsW, cellsS, h2]
    · simp [Program.keyLits, Tryz.underlying211, Tryz.underlying9, cellsW, cellsS, h2]
  all_goals simp [Program.keyLits, Tryz.underlying211, Tryz.underlying9, cellsW, cellsS]
theorem keyW (s : ByteArray) (h : s.size ≤ maxLen) : keyOf Tryz.prog 211 (.agg #[.string s]) = some (kl s) := by
  unfold keyOf
  rw [Tryz.underlying211]
  simp only [kt, formedW, Bool.true_and, if_true]
  obtain ⟨n, hn⟩ := tysz
  rw [hn]
  have e : Tryz.prog.keyLits (n + 1 + 1) 211 (Value.agg #[Value.string s]).cells.toList = some [Lit.string s.data.toList] := (lits1 n (.string s)).trans (by simp [h])
  rw [e]
  rfl
theorem kl_inj {s t : ByteArray} (hs : s.size ≤ maxLen) (ht : t.size ≤ maxLen) (h : kl s = kl t) : s = t := by
  have h1 := law.inj (keyW s hs) (by rw [keyW t ht, h])
  have h2 := congrArg Value.cells h1
  simpa [Value.cells] using h2
/-- What reads as a name is one. -/
theorem key_inv {key : Value} {l : Lit} (h : keyOf Tryz.prog 211 key = some l) : ∃ s : ByteArray, s.size ≤ maxLen ∧ key = .agg #[.string s] ∧ l = kl s := by
  unfold keyOf at h
  rw [Tryz.underlying211] at h
  simp only [kt, Bool.true_and] at h
  split at h
  · rename_i hf
    obtain ⟨n, hn⟩ := tysz
    rw [hn] at h
    cases key <;> simp only [Value.formed, Tryz.underlying211, cellsW] at hf <;> try (cases hf; done)
    rename_i cs
    obtain ⟨q⟩ := cs
    obtain ⟨c, rfl⟩ : ∃ c, q = [c] := List.length_eq_one_iff.1 (by simpa using hf)
    have e : Tryz.prog.keyLits (n + 1 + 1) 211 (Value.agg ⟨[c]⟩).cells.toList = _ := lits1 n c
    rw [e] at h
    cases c <;> simp only [Option.map_none, reduceCtorEq] at h
    rename_i s
    by_cases h2 : s.size ≤ maxLen
    · rw [if_pos h2] at h
      simp only [Option.map_some, Option.some.injEq] at h
      exact ⟨s, h2, rfl, h.symm⟩
    · rw [if_neg h2] at h; cases h
  · cases h
/-! ### the map -/
/-- What a map holds, as a list in order. -/
structure MapIs (M : List (ByteArray × Nat)) (D : DataW Unit) : Prop where
  tidy : Maps.Tidy D
  size : Maps.size D = M.length
  look : ∀ s : ByteArray, s.size ≤ maxLen → Maps.has D (kl s) = (getA s M).isSome ∧ ∀ i, getA s M = some i → D.atKey (kl s) (.lit (.int .i64 0)) = .lit (.int .i64 (i : Int))
  keys : ∀ k, Maps.has D k = true → ∃ s : ByteArray, s.size ≤ maxLen ∧ k = kl s
theorem mapIs_nil : MapIs [] (.map []) := ⟨Maps.tidy_empty, rfl, fun s _ => ⟨by simp [Maps.has, getA], fun i h => by cases h⟩, fun k h => by simp [Maps.has] at h⟩
theorem litKey (s : ByteArray) : WideAt.IsKeyLit (kl s) := trivial
theorem mapIs_put {M : List (ByteArray × Nat)} {D : DataW Unit} (h : MapIs M D) (hM : SrtA M) (n : ByteArray) (hn : n.size ≤ maxLen) (i : Nat) : MapIs (putA n i M) (D.put (kl n) (.lit (.int .i64 (i : Int)))) := by
  refine ⟨h.tidy.put (litKey n) _, ?_, fun s hs => ?_, fun k hk => ?_⟩
  · rw [size_put h.tidy, put_length n i M hM, h.size, (h.look n hn).1]
  · by_cases e : s = n
    · subst e
      rw [getA_put, if_pos rfl]
      exact ⟨by rw [has_put_same h.tidy.isMap (litKey s)]; rfl, fun j hj => by cases hj; rw [atKey_put_same h.tidy.isMap (litKey s)]⟩
    · have hne : kl s ≠ kl n := fun h0 => e (kl_inj hs hn h0)
      rw [getA_put, if_neg e, has_put_other hne, atKey_put_other hne]
      exact h.look s hs
  · by_cases e : k = kl n
    · exact ⟨n, hn, e⟩
    · rw [has_put_other e] at hk; exact h.keys k hk
theorem mapIs_del {M : List (ByteArray × Nat)} {D : DataW Unit} (h : MapIs M D) (hM : SrtA M) (n : ByteArray) (hn : n.size ≤ maxLen) : MapIs (delA n M) (D.del (kl n)) := by
  refine ⟨h.tidy.del _, ?_, fun s hs => ?_, fun k hk => ?_⟩
  · have h1 := size_del (k := kl n) h.tidy
    have h2 := del_length' n M hM
    rw [(h.look n hn).1, h.size] at h1
    omega
  · by_cases e : s = n
    · subst e
      rw [getA_del, if_pos rfl, has_del_same]
      exact ⟨rfl, fun j hj => by cases hj⟩
    · have hne : kl s ≠ kl n := fun h0 => e (kl_inj hs hn h0)
      rw [getA_del, if_neg e, has_del_other hne, atKey_del_other hne]
      exact h.look s hs
  · by_cases e : k = kl n
    · exact ⟨n, hn, e⟩
    · rw [has_del_other e] at hk; exact h.keys k hk
theorem ownsMap_size {w : World} {P : Program} {k : TypeId} {R : Value → Option (DataW Unit × List MemPlace)} {b n : Nat} {D : DataW Unit} (h : w.ownsMap P k R b n D) : w.ownsMap P k R b (Maps.size D) D := by
  obtain ⟨es, clock, hb, F, hs, rfl⟩ := h
  exact ⟨es, clock, hb, F, by rw [Maps.size_eq, length_sorted]; simp, rfl⟩
/-- Block b is the map of these names. -/
structure NamesAt (w : World) (b : Nat) (M : List (ByteArray × Nat)) : Prop where
  srt : SrtA M
  small : ∀ p ∈ M, p.1.size ≤ 1000
  len : M.length ≤ 1000000
  at_ : ∃ D : DataW Unit, MapIs M D ∧ w.ownsMap Tryz.prog 211 (plainElem Tryz.prog 3) b M.length D
theorem NamesAt.made (w : World) : NamesAt (w.alloc (.map #[] 0)) w.heap.size [] := ⟨.nil, (fun p h => by cases h), Nat.zero_le _, _, mapIs_nil, World.ownsMap_made _ _ _ _⟩
theorem NamesAt.lt {w : World} {b : Nat} {M : List (ByteArray × Nat)} (h : NamesAt w b M) : b < w.heap.size := by obtain ⟨D, _, h⟩ := h.at_; exact h.lt
theorem NamesAt.keep {F : Nat → Prop} {w w' : World} {b : Nat} {M : List (ByteArray × Nat)} (h : NamesAt w b M) (k : Keep F w w') (hb : ¬ F b) : NamesAt w' b M := by
  obtain ⟨D, h1, es, clock, hm, rest⟩ := h.at_
  exact ⟨h.srt, h.small, h.len, D, h1, es, clock, k.blk hb hm, rest⟩
theorem NamesAt.ext {w w' : World} {b : Nat} {M : List (ByteArray × Nat)} (h : NamesAt w b M) (k : Ext w w') : NamesAt w' b M := h.keep (k.keep (fun _ => False)) (fun q => q)
/-- A map is no row of cells. -/
theorem NamesAt.notCells {w : World} {b g : Nat} {M : List (ByteArray × Nat)} {cs : Array Value} {T : TypeId} {fr : Nat × Nat} (h : NamesAt w b M) (hc : w.heap[g]? = some (.cells cs T fr)) : b ≠ g := by
  obtain ⟨D, h1, es, clock, hm, rest⟩ := h.at_
  intro e; rw [e, hc] at hm; cases hm
theorem zeroInt (w : World) : (zeroValue 3).run Tryz.prog w = .ok (.int .i64 0) w := by kernel_rfl
section
variable {ops : Array Oper} {rest : List Oper} {o : Oper} {a : Act} {Q : Exit → Act → World → Prop} {W : World}
/-- 'v, ok := m[k]'. -/
theorem lookOk (hgd : o.guard = none) (m x : Operand) (hop : o.op = Op.lookup 101 m x true) (b : Nat) (M : List (ByteArray × Nat)) (hm : a.eval m = .map (some b)) (HO : NamesAt W b M)
    (s : ByteArray) (hs : s.size ≤ maxLen) (hx : a.eval x = .agg #[.string s]) (h : ∀ c : Int, (∀ i, getA s M = some i → c = i) → wpList Tryz.prog ops Q rest (a.put o.dst (.tuple #[.int .i64 c, .bool (getA s M).isSome])) W) : wpList Tryz.prog ops Q (o :: rest) a W := by
  obtain ⟨D, h1, h2⟩ := HO.at_
  refine wpList_lookup_own_ok_int W hgd m x 101 hop 211 3 .i64 law Tryz.underlying101 Tryz.underlying3 (zeroInt W) b M.length D hm h2 _ (kl s) hx (keyW s hs) ?_
  intro c hc _
  rw [(h1.look s hs).1]
  refine h c (fun i hi => ?_)
  rw [(h1.look s hs).2 i hi] at hc
  injection hc with hc
  injection hc with _ hc
  exact hc.symm
/-- 'm[k]', k a name that is there. -/
theorem lookIn (hgd : o.guard = none) (m x : Operand) (hop : o.op = Op.lookup 101 m x false) (b : Nat) (M : List (ByteArray × Nat)) (hm : a.eval m = .map (some b)) (HO : NamesAt W b M)
    (s : ByteArray) (hs : s.size ≤ maxLen) (i : Nat) (hin : getA s M = some i) (hx : a.eval x = .agg #[.string s]) (h : wpList Tryz.prog ops Q rest (a.put o.dst (.int .i64 (i : Int))) W) : wpList Tryz.prog ops Q (o :: rest) a W := by
  obtain ⟨D, h1, h2⟩ := HO.at_
  refine wpList_lookup_own_int W hgd m x 101 hop 211 3 .i64 law Tryz.underlying101 Tryz.underlying3 (zeroInt W) b M.length D hm h2 _ (kl s) hx (keyW s hs) ?_
  intro c hc _
  rw [(h1.look s hs).2 i hin] at hc
  injection hc with hc
  injection hc with _ hc
  subst hc
  exact h
/-- 'm[k] = i'. -/
theorem store_ (hgd : o.guard = none) (m x v : Operand) (hop : o.op = Op.mapUpdate 101 m x v) (b : Nat) (M : List (ByteArray × Nat)) (hm : a.eval m = .map (some b)) (HO : NamesAt W b M)
    (s : ByteArray) (hs : s.size ≤ 1000) (i : Nat) (hi : i ≤ 100000000) (hx : a.eval x = .agg #[.string s]) (hv : a.eval v = .int .i64 (i : Int)) (hl : M.length < 1000000)
    (h : ∀ w', NamesAt w' b (putA s i M) → W.grownBy w' (some b) → wpList Tryz.prog ops Q rest (a.put o.dst undef) w') : wpList Tryz.prog ops Q (o :: rest) a W := by
  obtain ⟨D, h1, h2⟩ := HO.at_
  have hsm : s.size ≤ maxLen := by unfold maxLen; omega
  refine wpList_mapUpdate_own W hgd m x v 101 hop 211 3 law Tryz.underlying101 (plainElem Tryz.prog 3) b M.length D hm h2 (by unfold maxLen; omega) _ _ (kl s) hx hv (keyW s hsm)
    (.lit (.int .i64 (i : Int))) [] (plainElem_int Tryz.underlying3 (WalkArith.wf_i64 (by omega))) ?_
  intro w' h3 h4
  have h5 := mapIs_put h1 HO.srt s hsm i
  have h6 := put_length s i M HO.srt
  refine h w' ⟨srt_put s i M HO.srt, fun p hp => ?_, by rw [h6]; split <;> omega, _, h5, by rw [← h5.size]; exact ownsMap_size h3⟩ h4
  rcases mem_putA hp with e | e
  · rw [e]; exact hs
  · exact HO.small p e
/-- 'delete(m, k)'. -/
theorem delete_ (hgd : o.guard = none) (m x : Operand) (hop : o.op = Op.call { callee := Callee.builtin Builtin.delete, args := #[m, x], argTypes := #[101, 211] }) (b : Nat) (M : List (ByteArray × Nat)) (hm : a.eval m = .map (some b)) (HO : NamesAt W b M)
    (s : ByteArray) (hs : s.size ≤ maxLen) (hx : a.eval x = .agg #[.string s])
    (h : ∀ w', NamesAt w' b (delA s M) → W.grownBy w' (some b) → wpList Tryz.prog ops Q rest (a.put o.dst (.tuple #[])) w') : wpList Tryz.prog ops Q (o :: rest) a W := by
  obtain ⟨D, h1, h2⟩ := HO.at_
  refine wpList_delete_own W hgd m x 101 211 hop 3 law Tryz.underlying101 (plainElem Tryz.prog 3) b M.length D hm h2 _ (kl s) hx (keyW s hs) ?_
  intro w' h3 h4
  have h5 := mapIs_del h1 HO.srt s hs
  refine h w' ⟨srt_del s M HO.srt, fun p hp => HO.small p (List.mem_filter.1 hp).1, Nat.le_trans (del_length s M) HO.len, _, h5, by rw [← h5.size]; exact ownsMap_size h3⟩ h4.grown
/-- 'len(m)'. -/
theorem len_ (hgd : o.guard = none) (m : Operand) (hop : o.op = Op.call { callee := Callee.builtin Builtin.len, args := #[m], argTypes := #[101] }) (b : Nat) (M : List (ByteArray × Nat)) (hm : a.eval m = .map (some b)) (HO : NamesAt W b M)
    (h : wpList Tryz.prog ops Q rest (a.put o.dst (.int .i64 (M.length : Int))) W) : wpList Tryz.prog ops Q (o :: rest) a W := by
  obtain ⟨D, h1, h2⟩ := HO.at_
  refine wpList_len_own W hgd m 101 hop 211 3 Tryz.underlying101 (plainElem Tryz.prog 3) b M.length D hm h2 ?_
  rw [h1.size]
  exact h
end
/-- What a look-up gives. -/
def lookVal (s : ByteArray) (M : List (ByteArray × Nat)) : Int := ((getA s M).getD 0 : Nat)
theorem NamesAt.lookRun {w : World} {b : Nat} {M : List (ByteArray × Nat)} (h : NamesAt w b M) (s : ByteArray) (hs : s.size ≤ maxLen) :
    (Instr.lookup 101 (.map (some b)) (.agg #[.string s]) true).run Tryz.prog w = .ok (.tuple #[.int .i64 (lookVal s M), .bool (getA s M).isSome]) w := by
  obtain ⟨D, h1, h2⟩ := h.at_
  obtain ⟨v, ps, hr, hv⟩ := h2.look_ok law Tryz.underlying101 (zeroInt w) (plainElem_int Tryz.underlying3 (a := 0) (by decide)) (keyW s hs)
  rw [(h1.look s hs).1] at hr
  rw [hr]
  obtain ⟨c, rfl, hc, _⟩ := plainElem_int_inv Tryz.underlying3 hv
  have hcc : c = lookVal s M := by
    unfold lookVal
    cases hg : getA s M with
    | some i =>
      have := (h1.look s hs).2 i hg
      rw [this] at hc
      have h3 := (Prod.mk.inj hc).1
      injection h3 with h3
      injection h3 with _ h3
      exact h3.symm
    | none =>
      have h0 : Maps.has D (kl s) = false := by rw [(h1.look s hs).1, hg]; rfl
      rw [atKey_of_not_has h0] at hc
      have h3 := (Prod.mk.inj hc).1
      injection h3 with h3
      injection h3 with _ h3
      exact h3.symm
  rw [hcc]
theorem NamesAt.lenRun {w : World} {b : Nat} {M : List (ByteArray × Nat)} (h : NamesAt w b M) (ty : TypeId) : (Builtin.len_ #[101] ty #[.map (some b)]).run Tryz.prog w = .ok (.int .i64 (M.length : Int)) w := by
  obtain ⟨D, h1, h2⟩ := h.at_
  rw [h2.len Tryz.underlying101 ty, h1.size]
end K34
namespace K29
open Go Go.RowKit
open KB KB2 KB3 K6 K7 K8 K9
set_option linter.unusedVariables false
set_option linter.unusedSimpArgs false
set_option maxHeartbeats 2000000
set_option maxRecDepth 100000
/-- l[:n:n]. -/
theorem Sl_clip {α : Type} {R : Rd α} {F : Nat → Prop} {w : World} {A : Option Addr} {c : Nat} {l : List α} (h : R.Sl F w A c l) : R.Sl F w A l.length l :=
  ⟨Nat.le_refl _, Nat.le_trans h.le h.max, fun hA => by have := h.nil_ hA; have := h.le; omega, h.at_⟩
theorem clipI {α : Type} (R : Rd α) (F : Nat → Prop) (A : Option Addr) (c : Nat) (l : List α) (w : World) (h : R.Sl F w A c l) :
    Calls Tryz.prog 155 #[.slice A l.length c] w fun e w' => e = .returned (.slice A l.length l.length) ∧ w = w' := by
  have h1 := h.le
  have i0 : (0 : Int) ≤ (l.length : Int) := by omega
  have i1 : (l.length : Int) ≤ (c : Int) := by omega
  have i2 := h.max
  unfold maxLen at i2
  go_enter Tryz.func155, Tryz.ntmps155
  go_wp2
  go_ret
  exact ⟨rfl, rfl⟩
theorem clipF {α : Type} (R : Rd α) (F : Nat → Prop) (A : Option Addr) (c : Nat) (l : List α) (w : World) (h : R.Sl F w A c l) :
    Calls Tryz.prog 139 #[.slice A l.length c] w fun e w' => e = .returned (.slice A l.length l.length) ∧ w = w' := by
  have h1 := h.le
  have i0 : (0 : Int) ≤ (l.length : Int) := by omega
  have i1 : (l.length : Int) ≤ (c : Int) := by omega
  have i2 := h.max
  unfold maxLen at i2
  go_enter Tryz.func139, Tryz.ntmps139
  go_wp2
  go_ret
  exact ⟨rfl, rfl⟩
theorem clipC {α : Type} (R : Rd α) (F : Nat → Prop) (A : Option Addr) (c : Nat) (l : List α) (w : World) (h : R.Sl F w A c l) :
    Calls Tryz.prog 244 #[.slice A l.length c] w fun e w' => e = .returned (.slice A l.length l.length) ∧ w = w' := by
  have h1 := h.le
  have i0 : (0 : Int) ≤ (l.length : Int) := by omega
  have i1 : (l.length : Int) ≤ (c : Int) := by omega
  have i2 := h.max
  unfold maxLen at i2
  go_enter Tryz.func244, Tryz.ntmps244
  go_wp2
  go_ret
  exact ⟨rfl, rfl⟩
theorem clipS {α : Type} (R : Rd α) (F : Nat → Prop) (A : Option Addr) (c : Nat) (l : List α) (w : World) (h : R.Sl F w A c l) :
    Calls Tryz.prog 191 #[.slice A l.length c] w fun e w' => e = .returned (.slice A l.length l.length) ∧ w = w' := by
  have h1 := h.le
  have i0 : (0 : Int) ≤ (l.length : Int) := by omega
  have i1 : (l.length : Int) ≤ (c : Int) := by omega
  have i2 := h.max
  unfold maxLen at i2
  go_enter Tryz.func191, Tryz.ntmps191
  go_wp2
  go_ret
  exact ⟨rfl, rfl⟩
end K29
namespace K22
open Go Go.RowKit
open KB KB2 KB3 K1 K3 K6 K7 K8 K14 Num
set_option linter.unusedVariables false
set_option linter.unusedSimpArgs false
set_option maxHeartbeats 2000000
set_option maxRecDepth 100000
theorem oddMay (n : Int) (h : 0 ≤ n ∧ n ≤ 999999) (w : World) : Calls Tryz.prog 261 #[.int .i64 n] w fun e w' => e = .returned (.bool false) ∧ Ext w w' := by
  have h1 : decide (n < 0) = false := decide_eq_false (by omega)
  have h2 : decide ((999999 : Int) < n) = false := decide_eq_false (by omega)
  go_enter Tryz.func261, Tryz.ntmps261
  go_wp2
  go_ret
  exact ⟨rfl, Ext.refl _⟩
/-- Bytes that are being written. -/
structure Wr (F : Nat → Prop) (w0 w : World) (g : Nat) (L : List Int) : Prop where
  ext : Ext w0 w
  ge : w0.heap.size ≤ g
  at_ : ∃ v, w.heap[g]? = some (.cells #[v] 247 (0, 0)) ∧ rdU8.Own F w0.heap.size 5 w v L ∧ v.ownBlock ≠ some g
/-- What stands in a cell now. -/
def cur (w : World) (g : Nat) : Value := (w.cell? ⟨g, 0, none⟩).getD undef
theorem cur_eq {w : World} {g : Nat} {v : Value} (h : w.cell? ⟨g, 0, none⟩ = some v) : cur w g = v := by rw [cur, h]; rfl
theorem cur_some {w : World} {g : Nat} {v : Value} (h : w.cell? ⟨g, 0, none⟩ = some v) : w.cell? ⟨g, 0, none⟩ = some (cur w g) := by rw [cur_eq h]; exact h
/-- What lies away from the bytes under way stays, and away from them. -/
def Stay (w w' : World) (g : Nat) : Prop := ∀ (G : Nat → Prop) {α : Type} (R : Rd α), 0 < R.sz → ∀ A c l, R.Sl (fun k => G k ∨ k = g ∨ (cur w g).ownBlock = some k) w A c l → R.Sl (fun k => G k ∨ k = g ∨ (cur w' g).ownBlock = some k) w' A c l
theorem stay_of {w wa w2 : World} {g : Nat} {v v' : Value} (hgl : g < w.heap.size) (hE : Ext w wa) (hg : wa.grownBy w2 v.ownBlock) (hat : At' wa v v') (c0 : w.cell? ⟨g, 0, none⟩ = some v) (c1 : (w2.setCell ⟨g, 0, none⟩ v').cell? ⟨g, 0, none⟩ = some v') : Stay w (w2.setCell ⟨g, 0, none⟩ v') g := by
  intro G α R hsz A c l h
  rw [cur_eq c0] at h
  rw [cur_eq c1]
  have h1 := h.ext hE
  have h2 := h1.narrow hsz (G := fun k => G k ∨ k = g ∨ v.ownBlock = some k ∨ k = wa.heap.size) (fun k hk hG => by
    rcases hG with q | q | q | q
    · exact .inl q
    · exact .inr (.inl q)
    · exact .inr (.inr q)
    · omega)
  have h3 := h2.keep (Keep.of_grown hg (fun k hk _ => .inr (.inr (.inl hk))))
  have h4 := h3.keep (Keep.setCell w2 ⟨g, 0, none⟩ v' (.inr (.inl rfl)))
  refine h4.narrow hsz (fun k hk hG => ?_)
  rcases hG with q | q | q
  · exact .inl q
  · exact .inr (.inl q)
  · rcases hat with e | e
    · exact .inr (.inr (.inl (by rw [← e]; exact q)))
    · rw [e] at q; cases q; exact .inr (.inr (.inr rfl))
theorem wNumberS (F : Nat → Prop) (w0 : World) (g : Nat) (L : List Int) (n : Nat) (hn : n < 1000000000) (w : World) (h : Wr F w0 w g L) (hl : L.length ≤ 1000000) (hF : ∀ k, F k → k < w0.heap.size) :
    Calls Tryz.prog 173 #[.pointer (some ⟨g, 0, none⟩), .int .i64 n] w fun e w' => e = .returned (.tuple #[]) ∧ Wr F w0 w' g (L ++ pv n) ∧ Stay w w' g := by
  obtain ⟨hE, hge, v, hb, hown, hne⟩ := h
  have c0 := blk_cell hb 0
  go_enter Tryz.func173, Tryz.ntmps173
  go_wp2_with (fail)
  have hgl := blk_lt hb
  have hwn : IntKind.u64.wrap (n : Int) = n := by rw [IntKind.wrap_u64]; omega
  have hp1 := pv_pos n
  have hp10 := pv_le10 n (by omega)
  have f0 := blk_froz hb 0
  replace c0 : w.cell? ⟨g, 0, none⟩ = some v := c0
  have HFv : ∀ k, Fv F v k → k < w.heap.size := FvF hown (fun k hk => Nat.lt_of_lt_of_le (hF k hk) hE.size)
  obtain ⟨Av, cv, rfl, _⟩ := hown.shut hF
  go_region_law (first | (go_simp; go_at_call 228; refine (putVar (Fv F (.slice Av L.length cv)) n (by omega) _ (FExt HFv (by (repeat (first | with_reducible refine Ext.drew ?_ | with_reducible refine Ext.drewN ?_ _ | with_reducible refine Ext.alloc ?_ _)); first | with_reducible assumption | with_reducible exact Ext.refl _))).mono ?_; rintro e w1 ⟨A1, c1, rfl, hs1, hE1⟩; have hx1 : Ext w w1 := Ext.trans (by (repeat (first | with_reducible refine Ext.drew ?_ | with_reducible refine Ext.drewN ?_ _ | with_reducible refine Ext.alloc ?_ _)); first | with_reducible assumption | with_reducible exact Ext.refl _) hE1; have d1 : w1.cell? ⟨g, 0, none⟩ = some (.slice Av L.length cv) := blk_cell (hx1.blk hb) 0; have d2 := blk_froz (hx1.blk hb) 0; dsimp only) | (refine step_appAt rfl (.tmp 8) (.tmp 11) 120 rfl rdU8 elU8 (v := .slice Av L.length cv) (by first | rfl | exact cur_eq c0 | exact cur_eq d1) (hown.ext (hx1.trans (by (repeat (first | with_reducible refine Ext.drew ?_ | with_reducible refine Ext.drewN ?_ _ | with_reducible refine Ext.alloc ?_ _)); first | with_reducible assumption | with_reducible exact Ext.refl _))) (by rfl) rfl (by omega) (hs1.ext (by (repeat (first | with_reducible refine Ext.drew ?_ | with_reducible refine Ext.drewN ?_ _ | with_reducible refine Ext.alloc ?_ _)); first | with_reducible assumption | with_reducible exact Ext.refl _)) (by omega) (by unfold maxLen; omega) (Nat.le_trans hE.size (Ext.size (hx1.trans (by (repeat (first | with_reducible refine Ext.drew ?_ | with_reducible refine Ext.drewN ?_ _ | with_reducible refine Ext.alloc ?_ _)); first | with_reducible assumption | with_reducible exact Ext.refl _)))) ?_; intro v' w2 hown2 hg2 hat2; obtain ⟨A3, c3, rfl, _⟩ := hown2.shut hF; have hb2 := (hg2.block g (Nat.lt_of_lt_of_le hgl (Ext.size (hx1.trans (by (repeat (first | with_reducible refine Ext.drew ?_ | with_reducible refine Ext.drewN ?_ _ | with_reducible refine Ext.alloc ?_ _)); first | with_reducible assumption | with_reducible exact Ext.refl _)))) (fun e => hne e.symm)).trans ((hx1.trans (by (repeat (first | with_reducible refine Ext.drew ?_ | with_reducible refine Ext.drewN ?_ _ | with_reducible refine Ext.alloc ?_ _)); first | with_reducible assumption | with_reducible exact Ext.refl _)).blk hb); have d3 := blk_cell hb2 0; have d4 := blk_froz hb2 0))
  all_goals
    (try simp only [Exit.inBlock, Exit.then])
    have hE3 := fun h => Ext.setCell (w := w0) (a := ⟨g, 0, none⟩) (Ext.grown h hg2 (fun k hk => (hown.ge k hk).1)) hge (.slice A3 (L ++ pv n).length c3)
    replace hE3 := hE3 (Ext.trans (hE.trans hx1) (by (repeat (first | with_reducible refine Ext.drew ?_ | with_reducible refine Ext.drewN ?_ _ | with_reducible refine Ext.alloc ?_ _)); first | with_reducible assumption | with_reducible exact Ext.refl _))
    have hne3 : Value.ownBlock (.slice A3 (L ++ pv n).length c3) ≠ some g := by
      rcases hat2 with e | e
      · rw [e]; exact hne
      · rw [e]; intro h; cases h
        exact absurd hgl (Nat.not_lt.2 (Ext.size (hx1.trans (by (repeat (first | with_reducible refine Ext.drew ?_ | with_reducible refine Ext.drewN ?_ _ | with_reducible refine Ext.alloc ?_ _)); first | with_reducible assumption | with_reducible exact Ext.refl _))))
    have hw4 := Rd.Own.free (intFree .u8) (G := F) hown2 (w' := w2.setCell ⟨g, 0, none⟩ (.slice A3 (L ++ pv n).length c3)) (fun k hk => Below.heap_setCell _ _ _ _ (fun e => hne3 (by rw [hk, e])))
    have hb4 := blk_set hb2 0 (.slice A3 (L ++ pv n).length c3)
    have hst := stay_of hgl (hx1.trans (by (repeat (first | with_reducible refine Ext.drew ?_ | with_reducible refine Ext.drewN ?_ _ | with_reducible refine Ext.alloc ?_ _)); first | with_reducible assumption | with_reducible exact Ext.refl _)) hg2 hat2 c0 (blk_cell hb4 0)
    rw [List.length_append] at hE3 hne3 hw4 hb4 hst
    go_returns
    exact ⟨rfl, ⟨hE3, hge, _, hb4, hw4, hne3⟩, hst⟩
theorem wNumber (F : Nat → Prop) (w0 : World) (g : Nat) (L : List Int) (n : Nat) (hn : n < 1000000000) (w : World) (h : Wr F w0 w g L) (hl : L.length ≤ 1000000) (hF : ∀ k, F k → k < w0.heap.size) :
    Calls Tryz.prog 173 #[.pointer (some ⟨g, 0, none⟩), .int .i64 n] w fun e w' => e = .returned (.tuple #[]) ∧ Wr F w0 w' g (L ++ pv n) :=
  (wNumberS F w0 g L n hn w h hl hF).mono fun _ _ h => ⟨h.1, h.2.1⟩
end K22
namespace K23
open Go Go.RowKit
open KB KB2 KB3 K1 K3 K6 K7 K8 K14 K22 Num
set_option linter.unusedVariables false
set_option linter.unusedSimpArgs false
set_option maxHeartbeats 2000000
set_option maxRecDepth 100000
theorem putN_le : ∀ l : List Int, (∀ n ∈ l, 0 ≤ n ∧ n < 1000000000) → (putN l).length ≤ 10 * l.length := by
  intro l
  induction l with
  | nil => intro _; simp [putN]
  | cons n l ih =>
    intro h
    have h1 := h n (List.mem_cons_self ..)
    have h2 := pv_le10 n.toNat (by omega)
    have h3 := ih (fun m hm => h m (List.mem_cons_of_mem _ hm))
    rw [putN_cons, List.length_append, List.length_cons]; omega
theorem eachRC (F : Nat → Prop) (w0 : World) (g : Nat) (L : List Int) (A : Option Addr) (c : Nat) (l : List Int) (hn : l.length ≤ 1000) (hv : ∀ n ∈ l, 0 ≤ n ∧ n < 1000000000) (w : World) (h : Wr F w0 w g L) (hl : L.length ≤ 100000) (hA : (rdInt .i64).Sl F w0 A c l) (hF : ∀ k, F k → k < w0.heap.size) :
    Calls Tryz.prog 174 #[.slice A l.length c, .func (.func 173) #[.pointer (some ⟨g, 0, none⟩)] #[]] w fun e w' => e = .returned (.tuple #[]) ∧ Wr F w0 w' g (L ++ (pv l.length ++ putN l)) := by
  have hfn : IsFn 173 := fun _ _ => rfl
  have hent := fun a => hfn #[.pointer (some ⟨g, 0, none⟩), a]
  go_enter Tryz.func174, Tryz.ntmps174
  go_wp2_with (fail)
  refine (wNumber F w0 g L l.length (by omega) w h (by omega) hF).mono ?_; rintro e w1 ⟨rfl, h1⟩
  have hp0 := pv_le10 l.length (by omega)
  go_wp2_with (fail)
  go_loopw [12] (fun i wr => ∃ k : Nat, i = .int .i64 k ∧ k ≤ l.length ∧ Wr F w0 wr g (L ++ (pv l.length ++ putN (l.take k)))) (fun i _ => l.length - (intOf i).toNat)
  case atStart => exact ⟨0, by go_num, Nat.zero_le _, by rw [List.take_zero, show putN [] = [] from rfl, List.append_nil]; exact h1⟩
  case round =>
    obtain ⟨k, rfl, hkl, hW⟩ := hrel
    by_cases hlt : k < l.length
    · obtain ⟨b, o, rfl, hc⟩ := int_get (hA.ext hW.ext) hlt
      obtain ⟨h0, h9⟩ := hv _ (List.getElem_mem hlt)
      obtain ⟨x, hx⟩ : ∃ x : Nat, l[k] = x := ⟨l[k].toNat, by omega⟩
      have hT : putN (l.take (k + 1)) = putN (l.take k) ++ pv x := by rw [take_snoc l hlt, putN_snoc, hx]; rfl
      have hq := putN_le (l.take k) (fun n hn => hv n (List.mem_of_mem_take hn))
      have hql : (l.take k).length ≤ 1000 := by rw [List.length_take]; omega
      have HB : As ((L ++ (pv l.length ++ putN (l.take k))).length ≤ 1000000) := ⟨by simp only [List.length_append]; omega⟩
      have HT := As.mk hT
      rw [hx] at hc h9
      clear hT hq hql h0
      go_wp2_with (fail)
      refine (wNumber F w0 g _ x (by omega) wr hW HB.out hF).mono ?_; rintro e w2 ⟨rfl, h2⟩
      go_wp2
      go_roundw
      case rel => exact ⟨k + 1, by go_num, by omega, by rw [HT.out]; simpa [List.append_assoc] using h2⟩
      case measure => simp [intOf]; omega
    · obtain rfl : k = l.length := by omega
      rw [List.take_length] at hW
      go_wp2
      go_returns
      exact ⟨rfl, hW⟩
end K23
namespace K24
open Go Go.RowKit
open KB KB2 K1 K3 K22 K23
set_option linter.unusedVariables false
set_option linter.unusedSimpArgs false
set_option maxHeartbeats 2000000
set_option maxRecDepth 100000
/-- A record as a value. -/
abbrev recV (kind : Int) (A : Option Addr) (c : Nat) (s : Sch) (Ai : Option Addr) (ci : Nat) (ids : List Int) (id : Int) : Value :=
  .agg #[.int .i64 kind, .slice A s.types.length c, .int .i64 s.keys, .int .i64 s.mode, .int .i64 s.grain, .slice Ai ids.length ci, .int .i64 id]
theorem mayHead (F : Nat → Prop) (A Ai : Option Addr) (c ci : Nat) (s : Sch) (ids : List Int) (id : Int) (w : World) (hA : SchAt F w A c s) (hs : s.Ok) (hi : (rdInt .i64).Sl F w Ai ci ids) (hn : ids.length ≤ 40) (hv : ∀ n ∈ ids, 0 ≤ n ∧ n ≤ 999999) (hid : 0 ≤ id ∧ id ≤ 999999) :
    Calls Tryz.prog 172 #[recV 1 A c s Ai ci ids id] w fun e w' => e = .returned (.bool true) ∧ Ext w w' := by
  have hn1 := hs.n1
  have d0 : ((s.types.length : Int) == 0) = false := beq_eq_false_iff_ne.mpr (by omega)
  have d1 : decide ((40 : Int) < (ids.length : Int)) = false := decide_eq_false (by omega)
  have B1 := blk_old (o' := .cells #[.slice A s.types.length c, .int .i64 s.keys, .int .i64 s.mode, .int .i64 s.grain] 27) (blk_new w (.cells #[.int .i64 1, .slice A s.types.length c, .int .i64 s.keys, .int .i64 s.mode, .int .i64 s.grain, .slice Ai ids.length ci, .int .i64 id] 92))
  have B2 := blk_new (w.alloc (.cells #[.int .i64 1, .slice A s.types.length c, .int .i64 s.keys, .int .i64 s.mode, .int .i64 s.grain, .slice Ai ids.length ci, .int .i64 id] 92)) (.cells #[.slice A s.types.length c, .int .i64 s.keys, .int .i64 s.mode, .int .i64 s.grain] 27)
  have hEb := ((Ext.refl w).alloc (.cells #[.int .i64 1, .slice A s.types.length c, .int .i64 s.keys, .int .i64 s.mode, .int .i64 s.grain, .slice Ai ids.length ci, .int .i64 id] 92)).alloc (.cells #[.slice A s.types.length c, .int .i64 s.keys, .int .i64 s.mode, .int .i64 s.grain] 27)
  simp only [World.size_alloc] at B1 B2
  go_enter Tryz.func172, Tryz.ntmps172
  go_wp2_with (fail)
  generalize ((w.alloc (.cells #[.int .i64 1, .slice A s.types.length c, .int .i64 s.keys, .int .i64 s.mode, .int .i64 s.grain, .slice Ai ids.length ci, .int .i64 id] 92)).alloc (.cells #[.slice A s.types.length c, .int .i64 s.keys, .int .i64 s.mode, .int .i64 s.grain] 27)) = wb at *
  refine (oddMay id hid wb).mono ?_; rintro e w1 ⟨rfl, hE1⟩
  have a0 := blk_cell (hE1.blk B1) 0
  have a5 := blk_cell (hE1.blk B1) 5
  go_wp2_with (fail)
  refine (hasInt F Ai ci ids 261 #[] w1 (hi.ext (hEb.trans hE1)) (by omega) (fun _ _ => rfl) (fun W k hk hW => oddMay _ (hv _ (List.getElem_mem hk)) W)).mono ?_; rintro e w2 ⟨rfl, hE2⟩
  have hE3 := hE1.trans hE2
  have b0 := blk_cell (hE3.blk B1) 0
  have e0 := blk_cell (hE3.blk B2) 0
  have e1 := blk_cell (hE3.blk B2) 1
  have e2 := blk_cell (hE3.blk B2) 2
  have e3 := blk_cell (hE3.blk B2) 3
  go_wp2_with (fail)
  refine (checkC F A c s w2 (Rd.Sl.ext hA (hEb.trans hE3)) hs).mono ?_; rintro e w3 ⟨rfl, hE4⟩
  go_wp2
  go_ret
  exact ⟨rfl, (hEb.trans hE3).trans hE4⟩
theorem mayAdd (F : Nat → Prop) (Ai : Option Addr) (ci : Nat) (ids : List Int) (id : Int) (w : World) (hi : (rdInt .i64).Sl F w Ai ci ids) (hn : ids.length ≤ 40) (hk : ids.length = 0) (hv : ∀ n ∈ ids, 0 ≤ n ∧ n ≤ 999999) (hid : 0 ≤ id ∧ id ≤ 999999) :
    Calls Tryz.prog 172 #[.agg #[.int .i64 2, .slice none 0 0, .int .i64 0, .int .i64 0, .int .i64 0, .slice Ai ids.length ci, .int .i64 id]] w fun e w' => e = .returned (.bool true) ∧ Ext w w' := by
  have d1 : decide ((40 : Int) < (ids.length : Int)) = false := decide_eq_false (by omega)
  have d2 : ((ids.length : Int) == 0) = true := by simp [hk]
  clear hk
  have B1 := blk_old (o' := .cells #[.slice none 0 0, .int .i64 0, .int .i64 0, .int .i64 0] 27) (blk_new w (.cells #[.int .i64 2, .slice none 0 0, .int .i64 0, .int .i64 0, .int .i64 0, .slice Ai ids.length ci, .int .i64 id] 92))
  have B2 := blk_new (w.alloc (.cells #[.int .i64 2, .slice none 0 0, .int .i64 0, .int .i64 0, .int .i64 0, .slice Ai ids.length ci, .int .i64 id] 92)) (.cells #[.slice none 0 0, .int .i64 0, .int .i64 0, .int .i64 0] 27)
  have hEb := ((Ext.refl w).alloc (.cells #[.int .i64 2, .slice none 0 0, .int .i64 0, .int .i64 0, .int .i64 0, .slice Ai ids.length ci, .int .i64 id] 92)).alloc (.cells #[.slice none 0 0, .int .i64 0, .int .i64 0, .int .i64 0] 27)
  simp only [World.size_alloc] at B1 B2
  go_enter Tryz.func172, Tryz.ntmps172
  go_wp2_with (fail)
  generalize ((w.alloc (.cells #[.int .i64 2, .slice none 0 0, .int .i64 0, .int .i64 0, .int .i64 0, .slice Ai ids.length ci, .int .i64 id] 92)).alloc (.cells #[.slice none 0 0, .int .i64 0, .int .i64 0, .int .i64 0] 27)) = wb at *
  refine (oddMay id hid wb).mono ?_; rintro e w1 ⟨rfl, hE1⟩
  have a0 := blk_cell (hE1.blk B1) 0
  have a5 := blk_cell (hE1.blk B1) 5
  go_wp2_with (fail)
  refine (hasInt F Ai ci ids 261 #[] w1 (hi.ext (hEb.trans hE1)) (by omega) (fun _ _ => rfl) (fun W k hk hW => oddMay _ (hv _ (List.getElem_mem hk)) W)).mono ?_; rintro e w2 ⟨rfl, hE2⟩
  have hE3 := hE1.trans hE2
  have b0 := blk_cell (hE3.blk B1) 0
  have b5 := blk_cell (hE3.blk B1) 5
  go_wp2
  go_ret
  exact ⟨rfl, hEb.trans hE3⟩
theorem maySwap (F : Nat → Prop) (Ai : Option Addr) (ci : Nat) (ids : List Int) (id : Int) (w : World) (hi : (rdInt .i64).Sl F w Ai ci ids) (hn : ids.length ≤ 40) (hk : 1 < ids.length) (hv : ∀ n ∈ ids, 0 ≤ n ∧ n ≤ 999999) (hid : 0 ≤ id ∧ id ≤ 999999) :
    Calls Tryz.prog 172 #[.agg #[.int .i64 3, .slice none 0 0, .int .i64 0, .int .i64 0, .int .i64 0, .slice Ai ids.length ci, .int .i64 id]] w fun e w' => e = .returned (.bool true) ∧ Ext w w' := by
  have d1 : decide ((40 : Int) < (ids.length : Int)) = false := decide_eq_false (by omega)
  have d2 : decide ((1 : Int) < (ids.length : Int)) = true := decide_eq_true (by omega)
  have B1 := blk_old (o' := .cells #[.slice none 0 0, .int .i64 0, .int .i64 0, .int .i64 0] 27) (blk_new w (.cells #[.int .i64 3, .slice none 0 0, .int .i64 0, .int .i64 0, .int .i64 0, .slice Ai ids.length ci, .int .i64 id] 92))
  have B2 := blk_new (w.alloc (.cells #[.int .i64 3, .slice none 0 0, .int .i64 0, .int .i64 0, .int .i64 0, .slice Ai ids.length ci, .int .i64 id] 92)) (.cells #[.slice none 0 0, .int .i64 0, .int .i64 0, .int .i64 0] 27)
  have hEb := ((Ext.refl w).alloc (.cells #[.int .i64 3, .slice none 0 0, .int .i64 0, .int .i64 0, .int .i64 0, .slice Ai ids.length ci, .int .i64 id] 92)).alloc (.cells #[.slice none 0 0, .int .i64 0, .int .i64 0, .int .i64 0] 27)
  simp only [World.size_alloc] at B1 B2
  go_enter Tryz.func172, Tryz.ntmps172
  go_wp2_with (fail)
  generalize ((w.alloc (.cells #[.int .i64 3, .slice none 0 0, .int .i64 0, .int .i64 0, .int .i64 0, .slice Ai ids.length ci, .int .i64 id] 92)).alloc (.cells #[.slice none 0 0, .int .i64 0, .int .i64 0, .int .i64 0] 27)) = wb at *
  refine (oddMay id hid wb).mono ?_; rintro e w1 ⟨rfl, hE1⟩
  have a0 := blk_cell (hE1.blk B1) 0
  have a5 := blk_cell (hE1.blk B1) 5
  go_wp2_with (fail)
  refine (hasInt F Ai ci ids 261 #[] w1 (hi.ext (hEb.trans hE1)) (by omega) (fun _ _ => rfl) (fun W k hk hW => oddMay _ (hv _ (List.getElem_mem hk)) W)).mono ?_; rintro e w2 ⟨rfl, hE2⟩
  have hE3 := hE1.trans hE2
  have b0 := blk_cell (hE3.blk B1) 0
  have b5 := blk_cell (hE3.blk B1) 5
  go_wp2
  go_ret
  exact ⟨rfl, hEb.trans hE3⟩
end K24
namespace K25
open Go Go.RowKit
open KB KB2 K1 K3 K6 K7 K8 K14 K22 K23 K24 Num
set_option linter.unusedVariables false
set_option linter.unusedSimpArgs false
set_option maxHeartbeats 2000000
set_option maxRecDepth 100000
def bodyHead (s : Sch) (ids : List Int) (id : Nat) : List Int := ((([1] ++ pv (putSch s).length) ++ putSch s) ++ pv id) ++ (pv ids.length ++ putN ids)
def bodyAdd (id : Nat) : List Int := [2] ++ pv id
def bodySwap (ids : List Int) (id : Nat) : List Int := ([3] ++ pv id) ++ (pv ids.length ++ putN ids)
def recHead (s : Sch) (ids : List Int) (id : Nat) : List Int := frame (bodyHead s ids id)
def recAdd (id : Nat) : List Int := frame (bodyAdd id)
def recSwap (ids : List Int) (id : Nat) : List Int := frame (bodySwap ids id)
theorem wr_new (F : Nat → Prop) (w : World) (k : Int) : Wr F w ((w.alloc (.cells #[.int .u8 k] 5)).alloc (.cells #[.slice (some ⟨w.heap.size, 0, none⟩) 1 1] 247)) (w.heap.size + 1) [k] := by
  have hE := ((Ext.refl w).alloc (.cells #[.int .u8 k] 5))
  have hown : rdU8.Own F w.heap.size 5 (w.alloc (.cells #[.int .u8 k] 5)) (.slice (some ⟨w.heap.size, 0, none⟩) 1 1) [k] :=
    ⟨[.int .u8 k], World.ownsRow_lit (base := w.heap.size) (e := 5) (size := 1) w #[.int .u8 k] 1 (Nat.le_refl _) (by unfold maxLen; decide) rfl, fun j x hj => by
      match j, hj with
      | 0, hj => simp at hj; subst hj; rfl⟩
  refine ⟨hE.alloc _, by omega, _, ?_, hown.ext ((Ext.refl _).alloc _), by simp [Value.ownBlock]⟩
  have := blk_new (w.alloc (.cells #[.int .u8 k] 5)) (.cells #[.slice (some ⟨w.heap.size, 0, none⟩) 1 1] 247)
  rwa [World.size_alloc] at this
theorem Wr.ext' {F : Nat → Prop} {w0 w w' : World} {g : Nat} {L : List Int} (h : Wr F w0 w g L) (k : Ext w w') : Wr F w0 w' g L := by
  obtain ⟨hE, hge, v, hb, hown, hne⟩ := h
  exact ⟨hE.trans k, hge, v, k.blk hb, hown.ext k, hne⟩
/-- More bytes, laid into the cell. -/
theorem wr_step {F : Nat → Prop} {w0 w wa w2 : World} {g : Nat} {L L' : List Int} {v v' : Value} (h : Wr F w0 w g L) (c0 : w.cell? ⟨g, 0, none⟩ = some v) (hx : Ext w wa) (hg : wa.grownBy w2 v.ownBlock) (hat : At' wa v v') (hown2 : rdU8.Own F w0.heap.size 5 w2 v' L') : Wr F w0 (w2.setCell ⟨g, 0, none⟩ v') g L' := by
  obtain ⟨hE, hge, u, hb, hown, hne⟩ := h
  have huv : u = v := by have := blk_cell hb 0; rw [c0] at this; simpa using this.symm
  subst huv
  have hgl := blk_lt hb
  have hb2 := (hg.block g (Nat.lt_of_lt_of_le hgl hx.size) (fun e => hne e.symm)).trans (hx.blk hb)
  have hne3 : v'.ownBlock ≠ some g := by
    rcases hat with e | e
    · rw [e]; exact hne
    · rw [e]; intro h; cases h
      exact absurd hgl (Nat.not_lt.2 hx.size)
  exact ⟨Ext.setCell (w := w0) (a := ⟨g, 0, none⟩) (Ext.grown (hE.trans hx) hg (fun k hk => (hown.ge k hk).1)) hge v', hge, _, blk_set hb2 0 v', Rd.Own.free (intFree .u8) (G := F) hown2 (fun k hk => Below.heap_setCell _ _ _ _ (fun e => hne3 (by rw [hk, e]))), hne3⟩
theorem putAddC (F : Nat → Prop) (id : Nat) (hid : id ≤ 999999) (w : World) (hF : ∀ k, F k → k < w.heap.size) :
    Calls Tryz.prog 89 #[.agg #[.int .i64 2, .slice none 0 0, .int .i64 0, .int .i64 0, .int .i64 0, .slice none 0 0, .int .i64 id]] w fun e w' => ∃ A c, e = .returned (.tuple #[.slice A (recAdd id).length c, .bool true]) ∧ rdU8.Sl F w' A c (recAdd id) ∧ Ext w w' := by
  have B1 := blk_new w (.cells #[.int .i64 2, .slice none 0 0, .int .i64 0, .int .i64 0, .int .i64 0, .slice none 0 0, .int .i64 id] 92)
  have hEb := (Ext.refl w).alloc (.cells #[.int .i64 2, .slice none 0 0, .int .i64 0, .int .i64 0, .int .i64 0, .slice none 0 0, .int .i64 id] 92)
  have hp := pv_le10 id (by omega)
  go_enter Tryz.func89, Tryz.ntmps89
  go_wp2_with (fail)
  generalize (w.alloc (.cells #[.int .i64 2, .slice none 0 0, .int .i64 0, .int .i64 0, .int .i64 0, .slice none 0 0, .int .i64 id] 92)) = wb at *
  refine (mayAdd F none 0 [] id wb (Rd.Sl.nil0 _ _ _) (by decide) rfl (by simp) (by omega)).mono ?_; rintro e w1 ⟨rfl, hE1⟩
  have hEw := hEb.trans hE1
  have a0 := blk_cell (hE1.blk B1) 0
  have q0 := blk_cell ((wr_new F w1 2).ext.blk (hE1.blk B1)) 0
  have q6 := blk_cell ((wr_new F w1 2).ext.blk (hE1.blk B1)) 6
  go_wp2_with (fail)
  refine (wNumber F w1 (w1.heap.size + 1) [2] id (by omega) _ (wr_new F w1 2) (by simp) (FExt hF hEw)).mono ?_; rintro e w2 ⟨rfl, hE2, hge, v2, hb2, hown2, hne2⟩
  have hx : [2] ++ pv id = bodyAdd id := rfl
  rw [hx] at hown2
  clear hx a0 q0 q6
  have hbl : (bodyAdd id).length ≤ 100 := by simp [bodyAdd]; omega
  obtain ⟨A2, c2, rfl, hs2⟩ := hown2.shut (FExt hF hEw)
  have a0 := blk_cell ((hE1.trans hE2).blk B1) 0
  have c0 := blk_cell hb2 0
  go_wp2_with (fail)
  refine (frameC F A2 c2 (bodyAdd id) w2 hs2 (by omega) (FExt hF (hEw.trans hE2))).mono ?_; rintro e w3 ⟨A3, c3, rfl, hs3, hE3⟩
  go_wp2
  go_ret2
  exact ⟨A3, c3, rfl, hs3, (hEw.trans hE2).trans hE3⟩
theorem putSwapC (F : Nat → Prop) (Ai : Option Addr) (ci : Nat) (ids : List Int) (id : Nat) (hid : id ≤ 999999) (w : World) (hi : (rdInt .i64).Sl F w Ai ci ids) (hn : ids.length ≤ 40) (hk : 1 < ids.length) (hv : ∀ n ∈ ids, 0 ≤ n ∧ n ≤ 999999) (hF : ∀ k, F k → k < w.heap.size) :
    Calls Tryz.prog 89 #[.agg #[.int .i64 3, .slice none 0 0, .int .i64 0, .int .i64 0, .int .i64 0, .slice Ai ids.length ci, .int .i64 id]] w fun e w' => ∃ A c, e = .returned (.tuple #[.slice A (recSwap ids id).length c, .bool true]) ∧ rdU8.Sl F w' A c (recSwap ids id) ∧ Ext w w' := by
  have B1 := blk_new w (.cells #[.int .i64 3, .slice none 0 0, .int .i64 0, .int .i64 0, .int .i64 0, .slice Ai ids.length ci, .int .i64 id] 92)
  have hEb := (Ext.refl w).alloc (.cells #[.int .i64 3, .slice none 0 0, .int .i64 0, .int .i64 0, .int .i64 0, .slice Ai ids.length ci, .int .i64 id] 92)
  have hp := pv_le10 id (by omega)
  have hp2 := pv_le10 ids.length (by omega)
  have hp3 := putN_le ids (fun n h => by have := hv n h; omega)
  go_enter Tryz.func89, Tryz.ntmps89
  go_wp2_with (fail)
  generalize (w.alloc (.cells #[.int .i64 3, .slice none 0 0, .int .i64 0, .int .i64 0, .int .i64 0, .slice Ai ids.length ci, .int .i64 id] 92)) = wb at *
  refine (maySwap F Ai ci ids id wb (hi.ext hEb) hn hk hv (by omega)).mono ?_; rintro e w1 ⟨rfl, hE1⟩
  have hEw := hEb.trans hE1
  have a0 := blk_cell (hE1.blk B1) 0
  have q0 := blk_cell ((wr_new F w1 3).ext.blk (hE1.blk B1)) 0
  have q6 := blk_cell ((wr_new F w1 3).ext.blk (hE1.blk B1)) 6
  go_wp2_with (fail)
  refine (wNumber F w1 (w1.heap.size + 1) [3] id (by omega) _ (wr_new F w1 3) (by simp) (FExt hF hEw)).mono ?_; rintro e w2 ⟨rfl, h2⟩
  have hE2 := h2.ext
  obtain ⟨L2, hL2⟩ : ∃ L, [3] ++ pv id = L := ⟨_, rfl⟩
  rw [hL2] at h2
  have hl2 : L2.length ≤ 20 := by rw [← hL2]; simp; omega
  have HL2 := As.mk hL2
  clear hL2 a0 q0 q6
  have a0 := blk_cell ((hE1.trans hE2).blk B1) 0
  have a5 := blk_cell ((hE1.trans hE2).blk B1) 5
  go_wp2_with (fail)
  refine (eachRC F w1 (w1.heap.size + 1) L2 Ai ci ids (by omega) (fun n h => by have := hv n h; omega) w2 h2 (by omega) (hi.ext hEw) (FExt hF hEw)).mono ?_; rintro e w3 ⟨rfl, hE3, hge, v3, hb3, hown3, hne3⟩
  have hx : L2 ++ (pv ids.length ++ putN ids) = bodySwap ids id := by rw [← HL2.out]; rfl
  rw [hx] at hown3
  have hbl : (bodySwap ids id).length ≤ 1000 := by rw [← hx]; simp only [List.length_append]; omega
  clear hx
  obtain ⟨A2, c2, rfl, hs2⟩ := hown3.shut (FExt hF hEw)
  have c0 := blk_cell hb3 0
  go_wp2_with (fail)
  refine (frameC F A2 c2 (bodySwap ids id) w3 hs2 (by omega) (FExt hF (hEw.trans hE3))).mono ?_; rintro e w4 ⟨A3, c3, rfl, hs3, hE4⟩
  go_wp2
  go_ret2
  exact ⟨A3, c3, rfl, hs3, (hEw.trans hE3).trans hE4⟩
theorem putHeadC (F : Nat → Prop) (A Ai : Option Addr) (c ci : Nat) (s : Sch) (ids : List Int) (id : Nat) (hid : id ≤ 999999) (w : World) (hA : SchAt F w A c s) (hs : s.Ok) (hi : (rdInt .i64).Sl F w Ai ci ids) (hn : ids.length ≤ 40) (hv : ∀ n ∈ ids, 0 ≤ n ∧ n ≤ 999999) (hF : ∀ k, F k → k < w.heap.size) :
    Calls Tryz.prog 89 #[recV 1 A c s Ai ci ids id] w fun e w' => ∃ A c, e = .returned (.tuple #[.slice A (recHead s ids id).length c, .bool true]) ∧ rdU8.Sl F w' A c (recHead s ids id) ∧ Ext w w' := by
  have B1 := blk_new w (.cells #[.int .i64 1, .slice A s.types.length c, .int .i64 s.keys, .int .i64 s.mode, .int .i64 s.grain, .slice Ai ids.length ci, .int .i64 id] 92)
  have hEb := (Ext.refl w).alloc (.cells #[.int .i64 1, .slice A s.types.length c, .int .i64 s.keys, .int .i64 s.mode, .int .i64 s.grain, .slice Ai ids.length ci, .int .i64 id] 92)
  have hp := pv_le10 id (by omega)
  have hp2 := pv_le10 ids.length (by omega)
  have hp3 := putN_le ids (fun n h => by have := hv n h; omega)
  have hpl : (putSch s).length ≤ 68 := by rw [putSch, putN_length _ (nums_small hs), nums_length]; have := hs.n2; omega
  have hp4 := pv_le10 (putSch s).length (by omega)
  go_enter Tryz.func89, Tryz.ntmps89
  go_wp2_with (fail)
  generalize (w.alloc (.cells #[.int .i64 1, .slice A s.types.length c, .int .i64 s.keys, .int .i64 s.mode, .int .i64 s.grain, .slice Ai ids.length ci, .int .i64 id] 92)) = wb at *
  refine (mayHead F A Ai c ci s ids id wb (Rd.Sl.ext hA hEb) hs (hi.ext hEb) hn hv (by omega)).mono ?_; rintro e w1 ⟨rfl, hE1⟩
  have hEw := hEb.trans hE1
  have a0 := blk_cell (hE1.blk B1) 0
  have a1 := blk_cell (hE1.blk B1) 1
  have a2 := blk_cell (hE1.blk B1) 2
  have a3 := blk_cell (hE1.blk B1) 3
  have a4 := blk_cell (hE1.blk B1) 4
  have q0 := blk_cell ((wr_new F w1 1).ext.blk (hE1.blk B1)) 0
  have q1 := blk_cell ((wr_new F w1 1).ext.blk (hE1.blk B1)) 1
  have q2 := blk_cell ((wr_new F w1 1).ext.blk (hE1.blk B1)) 2
  have q3 := blk_cell ((wr_new F w1 1).ext.blk (hE1.blk B1)) 3
  have q4 := blk_cell ((wr_new F w1 1).ext.blk (hE1.blk B1)) 4
  go_wp2_with (fail)
  have hWn := wr_new F w1 1
  have hWb := blk_new (w1.alloc (.cells #[.int .u8 1] 5)) (.cells #[.slice (some ⟨w1.heap.size, 0, none⟩) 1 1] 247)
  rw [World.size_alloc] at hWb
  have hE12 := hWn.ext
  generalize ((w1.alloc (.cells #[.int .u8 1] 5)).alloc (.cells #[.slice (some ⟨w1.heap.size, 0, none⟩) 1 1] 247)) = w12 at *
  obtain ⟨g, hg⟩ : ∃ g, w1.heap.size + 1 = g := ⟨_, rfl⟩
  rw [hg] at hWn hWb
  have hgw : w.heap.size < g ∧ w1.heap.size < g := by have := hEw.size; omega
  have hcg : cur w12 g = .slice (some ⟨w1.heap.size, 0, none⟩) 1 1 := cur_eq (blk_cell hWb 0)
  have hF12 : ∀ k, (F k ∨ k = g ∨ (cur w12 g).ownBlock = some k) → k < w12.heap.size := fun k hk => by
    rcases hk with q | q | q
    · exact FExt hF (hEw.trans hE12) k q
    · rw [q]; exact blk_lt hWb
    · rw [hcg] at q; simp [Value.ownBlock] at q; subst q; have := blk_lt hWb; omega
  have hA12 := Rd.Sl.ext (Rd.Sl.narrow (by decide) hA (G := fun k => F k ∨ k = g ∨ (cur w12 g).ownBlock = some k) (fun k hk q => by
    rcases q with q | q | q
    · exact q
    · omega
    · rw [hcg] at q; simp [Value.ownBlock] at q; subst q; have := hEw.size; omega)) (hEw.trans hE12)
  have HG := As.mk hg
  have HC := As.mk hcg
  clear hcg
  refine (putSC _ A c s w12 hA12 hs hF12).mono ?_; rintro e w2 ⟨A2, c2, rfl, hs2, hE2⟩
  have hc2 : cur w2 g = cur w12 g := by rw [HC.out]; exact cur_eq (blk_cell (hE2.blk hWb) 0)
  rw [← hc2] at hs2
  clear hc2 hF12 hA12 a0 a1 a2 a3 a4 q0 q1 q2 q3 q4 hg
  go_wp2_with (fail)
  rw [HG.out]
  refine (wNumberS F w1 g [1] (putSch s).length (by omega) w2 (Wr.ext' hWn hE2) (by simp) (FExt hF hEw)).mono ?_; rintro e w3 ⟨rfl, h3, st3⟩
  have hs3 := st3 F rdU8 (by decide) A2 c2 (putSch s) hs2
  obtain ⟨L3, hL3⟩ : ∃ L, [1] ++ pv (putSch s).length = L := ⟨_, rfl⟩
  rw [hL3] at h3
  have hl3 : L3.length ≤ 20 := by rw [← hL3]; simp; omega
  have HL3 := As.mk hL3
  clear hL3
  have hW3 := h3
  obtain ⟨hE3, hge, v3, hb3, hown3, hne3⟩ := h3
  have hF1 := FExt hF hEw
  obtain ⟨A3, c3, rfl, _⟩ := hown3.shut hF1
  have c0 := blk_cell hb3 0
  have f0 := blk_froz hb3 0
  replace c0 : w3.cell? ⟨g, 0, none⟩ = some (.slice A3 L3.length c3) := c0
  rw [cur_eq c0] at hs3
  have hs3' := hs3.narrow (by decide) (G := Fv F (.slice A3 L3.length c3)) (fun k hk q => q.elim .inl (fun q => .inr (.inr q)))
  have hgl := blk_lt hb3
  go_wp2_with (at_builtin; refine wpList_appAt rfl _ _ _ rfl rdU8 elU8 rfl hown3 rfl rfl hs3' (by omega) (by unfold maxLen; omega) hE3.size ?_; intro v' w4 hown4 hg4 hat4; obtain ⟨A4, c4, rfl, _⟩ := hown4.shut hF1; have hb4 := (hg4.block g hgl (fun e => hne3 e.symm)).trans hb3; have d0 := blk_cell hb4 0; have e0 := blk_froz hb4 0; have hWs := wr_step hW3 c0 (Ext.refl _) hg4 hat4 hown4; rw [List.length_append] at hWs; have q0 := blk_cell (hWs.ext.blk (hE1.blk B1)) 0; have q6 := blk_cell (hWs.ext.blk (hE1.blk B1)) 6)
  obtain ⟨L4, hL4⟩ : ∃ L, L3 ++ putSch s = L := ⟨_, rfl⟩
  rw [hL4] at hWs
  have hl4 : L4.length ≤ 100 := by rw [← hL4, List.length_append]; omega
  have HL4 := As.mk hL4
  clear hL4 c0 f0 d0 e0 q0 q6 hg4 hat4 hown4 hb4
  refine (wNumber F w1 g L4 id (by omega) _ hWs (by omega) hF1).mono ?_; rintro e w5 ⟨rfl, h5⟩
  have hE5 := h5.ext
  obtain ⟨L5, hL5⟩ : ∃ L, L4 ++ pv id = L := ⟨_, rfl⟩
  rw [hL5] at h5
  have hl5 : L5.length ≤ 120 := by rw [← hL5, List.length_append]; omega
  have HL5 := As.mk hL5
  clear hL5
  have a0 := blk_cell ((hE1.trans hE5).blk B1) 0
  have a5 := blk_cell ((hE1.trans hE5).blk B1) 5
  go_wp2_with (fail)
  refine (eachRC F w1 g L5 Ai ci ids (by omega) (fun n h => by have := hv n h; omega) w5 h5 (by omega) (hi.ext hEw) hF1).mono ?_; rintro e w6 ⟨rfl, hE6, hge6, v6, hb6, hown6, hne6⟩
  have hx : L5 ++ (pv ids.length ++ putN ids) = bodyHead s ids id := by rw [← HL5.out, ← HL4.out, ← HL3.out]; rfl
  rw [hx] at hown6
  have hbl : (bodyHead s ids id).length ≤ 1000 := by rw [← hx]; simp only [List.length_append]; omega
  clear hx a0 a5
  obtain ⟨A6, c6, rfl, hs6⟩ := hown6.shut hF1
  have c0 := blk_cell hb6 0
  go_wp2_with (fail)
  refine (frameC F A6 c6 (bodyHead s ids id) w6 hs6 (by omega) (FExt hF (hEw.trans hE6))).mono ?_; rintro e w7 ⟨A7, c7, rfl, hs7, hE7⟩
  go_wp2
  go_ret2
  exact ⟨A7, c7, rfl, hs7, (hEw.trans hE6).trans hE7⟩
end K25
end Go.Proofs.YtbjeejimedhniaaGreatDoor
