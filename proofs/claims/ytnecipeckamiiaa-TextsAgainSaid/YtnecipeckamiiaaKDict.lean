/-
  The map of texts.Dict, read as the words that it holds; and what the walk carries from round to round.
-/
import Derived.Test.YtnecipeckamiiaaKWord
import Derived.Test.YtnecipeckamiiaaCEach
import Derived.WalkArith
namespace Go.Proofs.Ytnecipeckamiiaa.KDict
open Go Go.RowKit Go.Maps Go.Proofs.Ytnecipeckamiiaa.KWord Go.Proofs.YtnecipeckamiiaaW.PrintWords Go.Proofs.YtnecipeckamiiaaW.PrintMore Go.Proofs.Ytnecipeckamiiaa.Num Go.Proofs.Ytnecipeckamiiaa.Bits Go.Proofs.Ytnecipeckamiiaa.VarM Go.Proofs.Ytnecipeckamiiaa.TextsT Go.Proofs.Ytnecipeckamiiaa.Hold Go.Proofs.Ytnecipeckamiiaa.HoldS Go.Proofs.Ytnecipeckamiiaa.CEach
set_option linter.unusedVariables false

/-! ### the map, as its words -/
def MapOf (acc : List ByteArray) (D : DataW Unit) : Prop :=
  IsMap D ∧ ∀ s : ByteArray, s.size ≤ maxLen → Maps.has D (kl s) = decide (s ∈ acc) ∧ (s ∈ acc → D.atKey (kl s) (.lit (.int .i64 0)) = .lit (.int .i64 (acc.idxOf s : Int)))
theorem mapOf_nil : MapOf [] (.map []) := ⟨isMap_empty, fun s _ => ⟨by simp [Maps.has], fun h => by cases h⟩⟩
theorem mapOf_snoc {acc : List ByteArray} {D : DataW Unit} (h : MapOf acc D) (s : ByteArray) (hs : s.size ≤ maxLen) (hn : s ∉ acc) : MapOf (acc ++ [s]) (D.put (kl s) (.lit (.int .i64 (acc.length : Int)))) := by
  refine ⟨h.1.put _ _, fun t ht => ?_⟩
  by_cases e : t = s
  · subst e
    refine ⟨by rw [has_put_same h.1 (show WideAt.IsKeyLit (kl t) from trivial)]; simp, fun _ => ?_⟩
    rw [atKey_put_same h.1 (show WideAt.IsKeyLit (kl t) from trivial), List.idxOf_append, if_neg hn]
    simp
  · have hne : kl t ≠ kl s := fun h0 => e (kl_inj ht hs h0)
    obtain ⟨h1, h2⟩ := h.2 t ht
    refine ⟨by rw [has_put_other hne, h1]; simp [e], fun hm => ?_⟩
    have hm' : t ∈ acc := by
      rcases List.mem_append.1 hm with hm | hm
      · exact hm
      · exact absurd (List.mem_singleton.1 hm) e
    rw [atKey_put_other hne, h2 hm', List.idxOf_append, if_pos hm']
/-- Block b is the map of these words. -/
structure OwnsWords (w : World) (b : Nat) (acc : List ByteArray) : Prop where
  mk :: (out : ∃ D : DataW Unit, MapOf acc D ∧ w.ownsMap Try.prog 39 (plainElem Try.prog 3) b acc.length D)
theorem OwnsWords.made (w : World) : OwnsWords (w.alloc (.map #[] 0)) w.heap.size [] := ⟨_, mapOf_nil, World.ownsMap_made _ _ _ _⟩
theorem OwnsWords.kept {w w' : World} {b : Nat} {acc : List ByteArray} {row : Option Nat} (h : OwnsWords w b acc) (hg : w.grownBy w' row) (hne : some b ≠ row) : OwnsWords w' b acc := by
  obtain ⟨D, h1, h2⟩ := h.out
  exact ⟨D, h1, h2.kept hg hne⟩
theorem OwnsWords.apart {w : World} {b : Nat} {acc : List ByteArray} {base n : Nat} {e : TypeId} {size : Nat} {v : Value} {xs : List Value} (h : OwnsWords w b acc) (ho : w.ownsRow base e size v n xs) : some b ≠ v.ownBlock := by
  obtain ⟨D, _, es, clock, hb, _⟩ := h.out
  intro hk
  obtain ⟨cells, hc⟩ := own_typed ho b hk.symm
  rw [hb] at hc
  cases hc
theorem zeroInt (w : World) : (zeroValue 3).run Try.prog w = .ok (.int .i64 0) w := by kernel_rfl
section
variable {ops : Array Oper} {rest : List Oper} {o : Oper} {a : Act} {Q : Exit → Act → World → Prop} {W : World}
/-- 'v, ok := m[k]'. -/
theorem lookOk (hgd : o.guard = none) (m x : Operand) (hop : o.op = Op.lookup 37 m x true) (b : Nat) (acc : List ByteArray) (hm : a.eval m = .map (some b)) (HO : OwnsWords W b acc)
    (s : ByteArray) (hs : s.size ≤ maxLen) (hx : a.eval x = .agg #[.string s]) (h : ∀ c : Int, wpList Try.prog ops Q rest (a.put o.dst (.tuple #[.int .i64 c, .bool (decide (s ∈ acc))])) W) : wpList Try.prog ops Q (o :: rest) a W := by
  obtain ⟨D, h1, h2⟩ := HO.out
  refine wpList_lookup_own_ok_int W hgd m x 37 hop 39 3 .i64 law Try.underlying37 Try.underlying3 (zeroInt W) b acc.length D hm h2 _ (kl s) hx (keyW s hs) ?_
  intro c _ _
  rw [(h1.2 s hs).1]
  exact h c
/-- 'm[k]', k a word that is there. -/
theorem lookIn (hgd : o.guard = none) (m x : Operand) (hop : o.op = Op.lookup 37 m x false) (b : Nat) (acc : List ByteArray) (hm : a.eval m = .map (some b)) (HO : OwnsWords W b acc)
    (s : ByteArray) (hs : s.size ≤ maxLen) (hin : s ∈ acc) (hx : a.eval x = .agg #[.string s]) (h : wpList Try.prog ops Q rest (a.put o.dst (.int .i64 (acc.idxOf s : Int))) W) : wpList Try.prog ops Q (o :: rest) a W := by
  obtain ⟨D, h1, h2⟩ := HO.out
  refine wpList_lookup_own_int W hgd m x 37 hop 39 3 .i64 law Try.underlying37 Try.underlying3 (zeroInt W) b acc.length D hm h2 _ (kl s) hx (keyW s hs) ?_
  intro c hc _
  rw [(h1.2 s hs).2 hin] at hc
  injection hc with hc
  injection hc with _ hc
  subst hc
  exact h
/-- 'm[k] = len(words)', k a word that is not there. -/
theorem storeNew (hgd : o.guard = none) (m x v : Operand) (hop : o.op = Op.mapUpdate 37 m x v) (b : Nat) (acc : List ByteArray) (hm : a.eval m = .map (some b)) (HO : OwnsWords W b acc)
    (s : ByteArray) (hs : s.size ≤ maxLen) (hin : s ∉ acc) (hx : a.eval x = .agg #[.string s]) (hv : a.eval v = .int .i64 (acc.length : Int)) (hn : acc.length ≤ 1000000)
    (h : ∀ w', OwnsWords w' b (acc ++ [s]) → W.grownBy w' (some b) → wpList Try.prog ops Q rest (a.put o.dst undef) w') : wpList Try.prog ops Q (o :: rest) a W := by
  obtain ⟨D, h1, h2⟩ := HO.out
  refine wpList_mapUpdate_own W hgd m x v 37 hop 39 3 law Try.underlying37 (plainElem Try.prog 3) b acc.length D hm h2 (by unfold maxLen; omega) _ _ (kl s) hx hv (keyW s hs)
    (.lit (.int .i64 (acc.length : Int))) [] (plainElem_int Try.underlying3 (WalkArith.wf_i64 (by omega))) ?_
  intro w' h3 h4
  exact h w' ⟨_, mapOf_snoc h1 s hs hin, by rw [List.length_append]; exact h3⟩ h4
/-- append(v, s), v a row of texts of the call's own; behind 'at_builtin'. -/
theorem appendOneS {w0 W : World} (hgd : o.guard = none) (s x : Operand)
    (ho : o.op = .call { callee := .builtin .append, args := #[s, x], argTypes := #[22, 22] })
    (v : Value) (xs : List ByteArray) (y : ByteArray) (hs : a.eval s = v) (hx : a.eval x = .slice (some ⟨W.heap.size, 0, none⟩) 1 1)
    (HO : Kd.R Kd.string 9 W w0.heap.size (fun _ => True) v xs) (HB : Below w0.heap.size w0 W) (hl : (xs.length + 1) * 16 ≤ 140737488355328)
    (h : ∀ v1 w1, Kd.R Kd.string 9 w1 w0.heap.size (fun _ => True) v1 (xs ++ [y]) → Below w0.heap.size w0 w1 → W.grownBy w1 v.ownBlock → wpList Try.prog ops Q rest (a.put o.dst v1) w1) :
    wpList Try.prog ops Q (o :: rest) a (W.alloc (.cells #[.string y] 9)) :=
  Kd.R_append Kd.string (w0 := w0) w0.heap.size hgd s x 22 9 (.string ⟨#[]⟩) 16 ho Try.underlying22 info_str rfl Nat.one_pos (by decide) v xs y [.string y] (fun _ => True) (fun _ => False) hs hx rfl
    (fun _ h => h.elim) (fun _ _ => trivial) HO HB HB.size hl (fun v1 w1 hr hb hg _ => h v1 w1 hr hb hg)
/-- append(v, ys...), told with the row that was written. -/
theorem appendRowG {k : IntKind} {P : Program} {w0 W : World} (hgd : o.guard = none) (s x : Operand) (t e : TypeId) (bytes : Nat)
    (ho : o.op = .call { callee := .builtin .append, args := #[s, x], argTypes := #[t, t] })
    (ht : P.underlying t = some (.slice e)) (hinfo : (P.info? e).map (fun i => (i.zero, i.size, i.bytes)) = some (some (.int k 0), 1, bytes)) (hb0 : 0 < bytes)
    (v : Value) (xs ys : List Int) (A : Option Addr) (m c : Nat) (hs : a.eval s = v) (hx : a.eval x = .slice A m c)
    (HO : Kd.R (Kd.int k) e W w0.heap.size (fun _ => True) v xs) (HR : Kd.C (Kd.int k) W A m ys) (HB : Below w0.heap.size w0 W) (hl : (xs.length + m) * bytes ≤ 140737488355328)
    (h : ∀ v1 w1, Kd.R (Kd.int k) e w1 w0.heap.size (fun _ => True) v1 (xs ++ ys) → Below w0.heap.size w0 w1 → W.grownBy w1 v.ownBlock → wpList P ops Q rest (a.put o.dst v1) w1) :
    wpList P ops Q (o :: rest) a W :=
  Kd.R_append_rows (Kd.int k) (w0 := w0) w0.heap.size hgd s x t e (.int k 0) bytes ho ht hinfo rfl Nat.one_pos hb0 v xs ys A m c (fun _ => True) (fun _ => False) hs hx HO HR
    (fun _ _ h => h) (fun _ h => h.elim) (fun _ _ => trivial) HB HB.size hl (fun v1 w1 hr hb hg _ => h v1 w1 hr hb hg)
/-- append(v, x), told with the row that was written. -/
theorem appendOneG {k : IntKind} {P : Program} {w0 W : World} (hgd : o.guard = none) (s x : Operand) (t e : TypeId) (bytes : Nat)
    (ho : o.op = .call { callee := .builtin .append, args := #[s, x], argTypes := #[t, t] })
    (ht : P.underlying t = some (.slice e)) (hinfo : (P.info? e).map (fun i => (i.zero, i.size, i.bytes)) = some (some (.int k 0), 1, bytes)) (hb0 : 0 < bytes)
    (v : Value) (xs : List Int) (y : Int) (hs : a.eval s = v) (hx : a.eval x = .slice (some ⟨W.heap.size, 0, none⟩) 1 1)
    (HO : Kd.R (Kd.int k) e W w0.heap.size (fun _ => True) v xs) (HB : Below w0.heap.size w0 W) (hl : (xs.length + 1) * bytes ≤ 140737488355328)
    (h : ∀ v1 w1, Kd.R (Kd.int k) e w1 w0.heap.size (fun _ => True) v1 (xs ++ [y]) → Below w0.heap.size w0 w1 → W.grownBy w1 v.ownBlock → (v1.ownBlock = v.ownBlock ∨ ∃ b, v1.ownBlock = some b ∧ W.heap.size ≤ b) → wpList P ops Q rest (a.put o.dst v1) w1) :
    wpList P ops Q (o :: rest) a (W.alloc (.cells #[.int k y] e)) :=
  Kd.R_append (Kd.int k) (w0 := w0) w0.heap.size hgd s x t e (.int k 0) bytes ho ht hinfo rfl Nat.one_pos hb0 v xs y [.int k y] (fun _ => True) (fun _ => False) hs hx rfl
    (fun _ h => h.elim) (fun _ _ => trivial) HO HB HB.size hl (fun v1 w1 hr hb hg hat => h v1 w1 hr hb hg hat)
end
/-- A row that was made behind another one: the other one's append leaves it. -/
theorem C_after {k : IntKind} {e : Nat} {W w1 w2 : World} {A : Option Addr} {c : Nat} {xs : List Int} {v : Value} (h : Kd.R (Kd.int k) e w1 W.heap.size (fun _ => True) (.slice A xs.length c) xs) (hv : ∀ j, v.ownBlock = some j → j < W.heap.size) (hg : w1.grownBy w2 v.ownBlock) : Kd.C (Kd.int k) w2 A xs.length xs :=
  (Kd.R_reads' (Kd.R_grown2 h rfl hg (fun j hj e_ => by
    have h1 := hv j hj
    have h2 := Kd.R_base h j e_.symm
    omega))).2.2
theorem R_nilS (base : Nat) (w : World) : Kd.R Kd.string 9 w base (fun _ => True) (.slice none 0 0) [] :=
  Kd.R_of_own (enc := Value.string) (xs := []) ⟨rfl, .inl ⟨rfl, rfl⟩⟩ (fun _ h => trivial)

/-! ### the rounds -/
/-- What the walk carries: the words, where they stand, the map. -/
structure DInv (w0 wr : World) (v4 v5 : Value) (acc : List ByteArray) (ps : List Int) (macc : List ByteArray) : Prop where
  below : Below w0.heap.size w0 wr
  ws : Kd.R Kd.string 9 wr w0.heap.size (fun _ => True) v4 acc
  ps : Kd.R (Kd.int .u8) 5 wr w0.heap.size (fun _ => True) v5 ps
  map : OwnsWords wr w0.heap.size macc
section
variable {w0 wr w1 : World} {v4 v5 : Value} {acc macc : List ByteArray} {ps : List Int}
theorem DInv.start (w : World) : DInv w (w.alloc (.map #[] 0)) (.slice none 0 0) (.slice none 0 0) [] [] [] := ⟨below_alloc (Below.refl _ _) _, R_nilS _ _, HoldS.R_nil _ _ _, .made w⟩
theorem DInv.step (h : DInv w0 wr v4 v5 acc ps macc) (hb : Below wr.heap.size wr w1) : DInv w0 w1 v4 v5 acc ps macc :=
  ⟨below_step h.below hb, Kd.R_below h.ws hb, Kd.R_below h.ps hb, h.map.kept (grown_of_below hb none) (by simp)⟩
theorem DInv.alloc (h : DInv w0 wr v4 v5 acc ps macc) (o : Obj) : DInv w0 (wr.alloc o) v4 v5 acc ps macc := h.step (below_alloc (Below.refl _ _) _)
theorem DInv.stored (h : DInv w0 wr v4 v5 acc ps macc) {m' : List ByteArray} (hm : OwnsWords w1 w0.heap.size m') (hg : wr.grownBy w1 (some w0.heap.size)) : DInv w0 w1 v4 v5 acc ps m' :=
  ⟨h.below.grown hg h.below.size (fun k hk => by injection hk with hk; omega), Kd.R_grown2 h.ws rfl hg (fun k hk => by injection hk with hk; subst hk; exact h.map.apart (Kd.own_of_R h.ws)),
    Kd.R_grown2 h.ps rfl hg (fun k hk => by injection hk with hk; subst hk; exact h.map.apart (Kd.own_of_R h.ps)), hm⟩
theorem DInv.word (h : DInv w0 wr v4 v5 acc ps macc) {v : Value} {acc' : List ByteArray} (hr : Kd.R Kd.string 9 w1 w0.heap.size (fun _ => True) v acc') (hb : Below w0.heap.size w0 w1) (hg : wr.grownBy w1 v4.ownBlock) : DInv w0 w1 v v5 acc' ps macc :=
  ⟨hb, hr, Kd.R_grown2 h.ps rfl hg (fun k hk => by
    have h1 := own_type_ne (Kd.own_of_R h.ws) (Kd.own_of_R h.ps) (by decide)
    rw [← hk]
    rcases h1 with h1 | h1
    · rw [h1] at hk; cases hk
    · exact h1), h.map.kept hg (h.map.apart (Kd.own_of_R h.ws))⟩
theorem DInv.where_ (h : DInv w0 wr v4 v5 acc ps macc) {v : Value} {ps' : List Int} (hr : Kd.R (Kd.int .u8) 5 w1 w0.heap.size (fun _ => True) v ps') (hb : Below w0.heap.size w0 w1) (hg : wr.grownBy w1 v5.ownBlock) : DInv w0 w1 v4 v acc ps' macc :=
  ⟨hb, Kd.R_grown2 h.ws rfl hg (fun k hk => by
    have h1 := own_type_ne (Kd.own_of_R h.ps) (Kd.own_of_R h.ws) (by decide)
    rw [← hk]
    rcases h1 with h1 | h1
    · rw [h1] at hk; cases hk
    · exact h1), hr, h.map.kept hg (h.map.apart (Kd.own_of_R h.ps))⟩
end
/-- The same without a map. -/
structure WInv (w0 wr : World) (v4 v5 : Value) (acc : List ByteArray) (ps : List Int) : Prop where
  below : Below w0.heap.size w0 wr
  ws : Kd.R Kd.string 9 wr w0.heap.size (fun _ => True) v4 acc
  ps : Kd.R (Kd.int .u8) 5 wr w0.heap.size (fun _ => True) v5 ps
theorem R_emptyS (w : World) : Kd.R Kd.string 9 (w.alloc (.cells #[] 9)) w.heap.size (fun _ => True) (.slice (some ⟨w.heap.size, 0, none⟩) 0 0) [] := by
  have h := World.ownsRow_lit (base := w.heap.size) (e := 9) (size := 1) w #[] 0 (Nat.le_refl _) (by simp) (by simp)
  exact ⟨fun _ _ => trivial, [], h, ⟨by simp, fun j p hj => by simp at hj⟩⟩
section
variable {w0 wr w1 : World} {v4 v5 : Value} {acc macc : List ByteArray} {ps : List Int}
theorem WInv.step (h : WInv w0 wr v4 v5 acc ps) (hb : Below wr.heap.size wr w1) : WInv w0 w1 v4 v5 acc ps := ⟨below_step h.below hb, Kd.R_below h.ws hb, Kd.R_below h.ps hb⟩
theorem WInv.start (w : World) : WInv w ((w.alloc (.cells #[] 9)).alloc (.cells #[] 5)) (.slice (some ⟨w.heap.size, 0, none⟩) 0 0) (.slice (some ⟨w.heap.size + 1, 0, none⟩) 0 0) [] [] := by
  have hb := below_alloc (Below.refl w.heap.size w) (.cells #[] 9)
  have h2 := R_empty 5 (k := .u8) (w.alloc (.cells #[] 9))
  rw [show (w.alloc (.cells #[] 9)).heap.size = w.heap.size + 1 from by simp] at h2
  exact ⟨below_alloc hb _, Kd.R_alloc (R_emptyS w) _, Kd.R_lower h2 (by omega)⟩
theorem WInv.word (h : WInv w0 wr v4 v5 acc ps) {v : Value} {acc' : List ByteArray} (hr : Kd.R Kd.string 9 w1 w0.heap.size (fun _ => True) v acc') (hb : Below w0.heap.size w0 w1) (hg : wr.grownBy w1 v4.ownBlock) : WInv w0 w1 v v5 acc' ps :=
  ⟨hb, hr, Kd.R_grown2 h.ps rfl hg (fun k hk => by
    have h1 := own_type_ne (Kd.own_of_R h.ws) (Kd.own_of_R h.ps) (by decide)
    rw [← hk]
    rcases h1 with h1 | h1
    · rw [h1] at hk; cases hk
    · exact h1)⟩
theorem WInv.where_ (h : WInv w0 wr v4 v5 acc ps) {v : Value} {ps' : List Int} (hr : Kd.R (Kd.int .u8) 5 w1 w0.heap.size (fun _ => True) v ps') (hb : Below w0.heap.size w0 w1) (hg : wr.grownBy w1 v5.ownBlock) : WInv w0 w1 v4 v acc ps' :=
  ⟨hb, Kd.R_grown2 h.ws rfl hg (fun k hk => by
    have h1 := own_type_ne (Kd.own_of_R h.ps) (Kd.own_of_R h.ws) (by decide)
    rw [← hk]
    rcases h1 with h1 | h1
    · rw [h1] at hk; cases hk
    · exact h1), hr⟩
end
theorem box_kept {W w1 : World} {row : Option Nat} {g : Nat} {o : Obj} (h : W.heap[g]? = some o) (hg : W.grownBy w1 row) (hne : some g ≠ row) : w1.heap[g]? = some o :=
  (hg.block g (Array.getElem?_eq_some_iff.1 h).1 hne).trans h
theorem box_cell {W : World} {g : Nat} {v : Value} {t : TypeId} (h : W.heap[g]? = some (.cells #[v] t (0, 0))) : W.cell? ⟨g, 0, none⟩ = some v := by
  rw [cell_of_row W g 0 _ t (0, 0) h]
  rfl
theorem OwnsWords.lt {w : World} {b : Nat} {acc : List ByteArray} (h : OwnsWords w b acc) : b < w.heap.size := by
  obtain ⟨D, _, h2⟩ := h.out
  exact h2.lt
theorem words_snoc (a : List ByteArray) (s : ByteArray) : ∀ acc, words acc (a ++ [s]) = more (words acc a) s := by
  induction a with
  | nil => intro acc; rfl
  | cons t a ih => intro acc; exact ih _
theorem wheres_snoc (a : List ByteArray) (s : ByteArray) : ∀ acc, wheres acc (a ++ [s]) = wheres acc a ++ pv ((words acc a).idxOf s) := by
  induction a with
  | nil => intro acc; simp [wheres, words]
  | cons t a ih => intro acc; rw [List.cons_append, wheres, ih, wheres, words, List.append_assoc]
theorem take_snoc (l : List ByteArray) (i : Nat) (h : i < l.length) : l.take (i + 1) = l.take i ++ [rdOf ByteArray.empty l i] := by
  rw [List.take_succ_eq_append_getElem h]
  simp [rdOf, List.getD_eq_getElem?_getD, h]
theorem wheres_le (l : List ByteArray) : ∀ acc, acc.length + l.length < 18446744073709551616 → (wheres acc l).length ≤ l.length * 10 := by
  induction l with
  | nil => intro acc _; simp [wheres]
  | cons s l ih =>
    intro acc h
    rw [List.length_cons] at h
    have hm : (more acc s).length ≤ acc.length + 1 := by unfold more; split <;> simp
    have h1 := ih (more acc s) (by omega)
    have h2 : acc.idxOf s ≤ acc.length := List.idxOf_le_length
    have h3 := pv_le10 (acc.idxOf s) (by omega)
    rw [wheres, List.length_append, List.length_cons, Nat.succ_mul]
    omega
end Go.Proofs.Ytnecipeckamiiaa.KDict
