/- Contracts of the program's functions, as the walks of the law use them. -/
import Derived.Test.YtbjeejimedhniaaGreatDoorC1
import Derived.ArgAppend
import Derived.Deep.RegionLawGrows
import Derived.Maps.OwnSet
import Derived.Maps.Views
import Derived.RegionTactic
import Derived.Deep.RegionHeld3
import Derived.Test.YtbjeejimedhniaaGreatDoorC0
import Derived.Test.YtbjeejimedhniaaGreatDoorProg
import Derived.Shelf.Small.Strs
namespace Go.Proofs.YtbjeejimedhniaaGreatDoor
namespace K98
open Go Go.RowKit
open KB KB2
set_option linter.unusedVariables false
set_option linter.unusedSimpArgs false
set_option maxHeartbeats 2000000
set_option maxRecDepth 100000
theorem infoU8 : (Tryz.prog.info? 5).map (fun i => (i.zero, i.size, i.bytes)) = some (some (.int .u8 0), 1, 1) := by kernel_rfl
theorem str_at {w : World} {B : Nat} {ty : TypeId} {v : Value} {n : Nat} {xs : List Value} (hown : w.ownsRow B 5 1 v n xs) (s : ByteArray) (h63 : n + s.size ≤ maxLen) (hby : n + s.size ≤ 140737488355328) {v' : Value} {w' : World}
    (h : (Builtin.append_ #[120, 9] ty #[v, .string s]).run Tryz.prog w = .ok v' w') : At' w v v' := by
  obtain ⟨i, hi, hz, hsize, hb⟩ := info_parts infoU8
  have hsmall : n + s.size ≤ 9223372036854775807 := by simp only [maxLen] at h63; omega
  have hxl : xs.length = n := by simpa using hown.1
  rcases hown.2 with ⟨rfl, rfl⟩ | ⟨g, cap, cur, rfl, hbg, hg, hnc, hcm, hcs, htake⟩
  · by_cases hm : s.size = 0
    · have hf := Lib.run_firstCells_string (P := Tryz.prog) w 1 s
      rw [hm] at hf
      have hr : (Builtin.append_ #[120, 9] ty #[.slice none 0 0, .string s]).run Tryz.prog w = .ok (.slice none 0 0) w := by
        simp [Builtin.append_, run_underlying Tryz.underlying120, run_underlying Tryz.underlying9, sizeOf, typeInfo, hi, hsize, Builtin.lenOf, hm, hf]
      rw [hr] at h
      injection h with h1 _
      exact .inl (by rw [← h1])
    · have hr := run_append_nil_string (P := Tryz.prog) w 120 9 ty 5 i (.int .u8 0) Tryz.underlying120 Tryz.underlying9 hi hz s (by omega) (by omega) (by rw [hb]; omega)
      rw [hr] at h
      injection h with h1 _
      exact .inr (by rw [← h1]; rfl)
  · by_cases hroom : n + s.size ≤ cap
    · have hr := Lib.run_append_room_string (P := Tryz.prog) w 120 9 ty 5 i Tryz.underlying120 Tryz.underlying9 hi hsize g n cap cur hg s hroom (by omega)
      rw [hr] at h
      injection h with h1 _
      exact .inl (by rw [← h1]; rfl)
    · have holds : ∀ j u, xs[j]? = some u → w.cell? ((⟨g, 0, none⟩ : Addr).add j) = some u := hown.cells (g := g) rfl
      have hr := Lib.run_append_grow_string (P := Tryz.prog) w 120 9 ty 5 i (.int .u8 0) Tryz.underlying120 Tryz.underlying9 hi hz ⟨g, 0, none⟩ n cap xs (by rw [hsize]; simpa using hxl) holds s (by omega) (by omega) (by rw [hb]; exact growslice_fits (by omega) (by omega))
      rw [hr] at h
      injection h with h1 _
      exact .inr (by rw [← h1]; rfl)
section
variable {ops : Array Oper} {rest : List Oper} {o : Oper} {a : Act} {Q : Exit → Act → World → Prop} {w : World}
theorem wpList_strAt (hgd : o.guard = none) (sl x : Operand) (ho : o.op = .call { callee := .builtin .append, args := #[sl, x], argTypes := #[120, 9] }) (B : Nat) (v : Value) (n : Nat) (xs : List Value) (hs : a.eval sl = v) (hown : w.ownsRow B 5 1 v n xs) (s : ByteArray) (hx : a.eval x = .string s)
    (h63 : n + s.size ≤ maxLen) (hby : n + s.size ≤ 140737488355328) (hB : B ≤ w.heap.size)
    (h : ∀ v' w', w'.ownsRow B 5 1 v' (n + s.size) (xs ++ Lib.strCells s) → w.grownBy w' v.ownBlock → At' w v v' → wpList Tryz.prog ops Q rest (a.put o.dst v') w') : wpList Tryz.prog ops Q (o :: rest) a w := by
  obtain ⟨i, hi, hz, hsize, hb⟩ := info_parts infoU8
  refine wpList_plain hgd fun K hK => ?_
  obtain ⟨v', w', hr, h2, h3, h4⟩ := Lib.run_append_own_string (P := Tryz.prog) w B 120 9 o.type 5 i Tryz.underlying120 Tryz.underlying9 hi hz hsize hb v n xs hown s h63 hby hB
  have hat := str_at hown s h63 hby hr
  unfold Oper.wp execOp
  simp only [ho, resolve, invoke, builtin, Sem.run_bind, Sem.run_pure, Result.andThen_ok, List.map_toArray, List.map_cons, List.map_nil, hs, hx, hr]
  exact hK _ _ (h v' w' h2 h3 hat)
end
/-- A builder, and its bytes. -/
def BAt (B : Nat) (w : World) (b : Nat) (v : Value) (l : List UInt8) : Prop :=
  B ≤ b ∧ (∃ p, (p = .pointer none ∨ p = .pointer (some ⟨b, 0, none⟩)) ∧ w.heap[b]? = some (.cells #[p, v] 122 (0, 0))) ∧ w.ownsRow B 5 1 v l.length (Lib.byteCells l) ∧ v.ownBlock ≠ some b
theorem copyCheckC (b : Nat) (p v : Value) (hp : p = .pointer none ∨ p = .pointer (some ⟨b, 0, none⟩)) (w : World) (hb : w.heap[b]? = some (.cells #[p, v] 122 (0, 0))) :
    Calls Tryz.prog 106 #[.pointer (some ⟨b, 0, none⟩)] w fun e w' => e = .returned (.tuple #[]) ∧ (w' = w ∨ w' = w.setCell ⟨b, 0, none⟩ (.pointer (some ⟨b, 0, none⟩))) ∧ w'.heap[b]? = some (.cells #[.pointer (some ⟨b, 0, none⟩), v] 122 (0, 0)) := by
  have hj0 : (Tryz.prog.info? 122).map (·.size) = some 2 := by kernel_rfl
  obtain ⟨j, hj, hjs⟩ := Option.map_eq_some_iff.1 hj0
  have hsh : w.shape? b = some (122, 2) := by simp [World.shape?, hb]
  have hb2 := blk_set hb 0 (.pointer (some ⟨b, 0, none⟩))
  (have p0 := blk_cell (hb) 0; have pf0 := blk_froz (hb) 0; have p1 := blk_cell (hb) 1; have pf1 := blk_froz (hb) 1)
  rcases hp with rfl | rfl
  · go_enter Tryz.func106, Tryz.ntmps106
    go_wp2
    rw [Lib.run_to_unsafe w ⟨b, 0, none⟩ Tryz.underlying119 Tryz.underlying262 hj (by rw [hjs]; decide) hsh (Nat.zero_lt_succ 1)]
    simp only [Result.andThen]
    rw [Oper.upon_value]
    go_wp2
    rw [run_callFunc_extern Tryz.func187 (by kernel_rfl) (by kernel_rfl) (by kernel_rfl) (e := Extern.AbiNoEscape.same) (by kernel_rfl)]
    rw [Lib.run_noEscape]
    simp only [Result.andThen]
    rw [Oper.upon_value]
    go_wp2
    rw [Lib.run_from_unsafe w ⟨b, 0, none⟩ Tryz.underlying262 Tryz.underlying119 hj hsh (by kernel_rfl)]
    simp only [Result.andThen]
    rw [Oper.upon_value]
    go_wp2
    go_end0
    exact ⟨rfl, .inr rfl, hb2⟩
  · go_enter Tryz.func106, Tryz.ntmps106
    go_wp2
    rw [Lib.run_neq_ptr_same w _ Tryz.underlying119 hj]
    go_wp2
    go_end0
    exact ⟨rfl, .inl rfl, hb⟩
theorem cells_app (l : List UInt8) (s : ByteArray) : Lib.byteCells l ++ Lib.strCells s = Lib.byteCells (l ++ s.data.toList) := by simp [Lib.byteCells, Lib.strCells]
theorem raw_keep {w w' : World} {B n : Nat} {e : TypeId} {v : Value} {xs : List Value} (h : w.ownsRow B e 1 v n xs) (hk : ∀ g, v.ownBlock = some g → w'.heap[g]? = w.heap[g]?) : w'.ownsRow B e 1 v n xs := by
  obtain ⟨h1, h2⟩ := h
  refine ⟨h1, h2.imp id ?_⟩
  rintro ⟨g, cap, cur, rfl, a, hb, rest⟩
  exact ⟨g, cap, cur, rfl, a, (hk g rfl).trans hb, rest⟩
theorem writeC (B b : Nat) (v : Value) (l : List UInt8) (s : ByteArray) (w : World) (h : BAt B w b v l) (hlen : l.length + s.size ≤ 1000000000) (hB : B ≤ w.heap.size) :
    Calls Tryz.prog 46 #[.pointer (some ⟨b, 0, none⟩), .string s] w fun e w' => (∃ r, e = .returned r) ∧ ∃ v', BAt B w' b v' (l ++ s.data.toList) ∧ (∀ q, v'.ownBlock = some q → v.ownBlock = some q ∨ w.heap.size ≤ q) ∧ Keep (fun k => k = b ∨ v.ownBlock = some k) w w' := by
  obtain ⟨hBb, ⟨p, hp, hb⟩, hown, hne⟩ := h
  have hcc := copyCheckC b p v hp w hb
  go_enter Tryz.func46, Tryz.ntmps46
  go_wp2_with (fail)
  refine hcc.mono ?_; rintro e w1 ⟨rfl, hw1, hb1⟩
  have hbl := blk_lt hb
  have K1 : Keep (fun k => k = b) w w1 := by
    rcases hw1 with rfl | rfl
    · exact Keep.refl _ _
    · exact keep_set1 w b 0 _
  have hge := fun q hq => hown.lt q hq
  have hown1 : w1.ownsRow B 5 1 v l.length (Lib.byteCells l) := raw_keep hown (fun g hg => K1.block g (hge g hg).2 (fun e => hne (by rw [hg, e])))
  clear hw1 hb hcc
  (have p0 := blk_cell (hb1) 0; have pf0 := blk_froz (hb1) 0; have p1 := blk_cell (hb1) 1; have pf1 := blk_froz (hb1) 1)
  have hsz := K1.size
  go_wp2_with (at_builtin; refine wpList_strAt rfl _ _ rfl B v l.length _ rfl hown1 s rfl (by unfold maxLen; omega) (by omega) (by omega) ?_; intro v2 w2 hown2 hg2 hat2; have hb2 := (hg2.block b (by omega) (fun e => hne e.symm)).trans hb1; (have q0 := blk_cell (hb2) 0; have qf0 := blk_froz (hb2) 0; have q1 := blk_cell (hb2) 1; have qf1 := blk_froz (hb2) 1); obtain ⟨ao, n2, cap, rfl⟩ : ∃ ao n2 cap, v2 = .slice ao n2 cap := (by rcases hown2.2 with ⟨hv, _⟩ | ⟨g, cap, cur, hv, _⟩ <;> exact ⟨_, _, _, hv⟩))
  have K3 := keep_set1 w2 b 1 (.slice ao n2 cap)
  have hb3 := blk_set hb2 1 (.slice ao n2 cap)
  have hat3 : ∀ q, (Value.slice ao n2 cap).ownBlock = some q → v.ownBlock = some q ∨ w.heap.size ≤ q := fun q hq => by
    rcases hat2 with e | e
    · exact .inl (e ▸ hq)
    · rw [e] at hq; cases hq; exact .inr hsz
  have hne2 : (Value.slice ao n2 cap).ownBlock ≠ some b := fun e => (hat3 b e).elim (fun e => hne e) (fun e => by omega)
  have K2 : Keep (fun k => v.ownBlock = some k) w1 w2 := Keep.of_grown hg2 (fun j hj _ => hj)
  have hge2 := fun q hq => hown2.lt q hq
  have hlen2 : l.length + s.size = (l ++ s.data.toList).length := by rw [List.length_append]; rfl
  rw [cells_app, hlen2] at hown2
  have hown3 := raw_keep (w' := w2.setCell ⟨b, 1, none⟩ (.slice ao n2 cap)) hown2 (fun g hg => K3.block g (hge2 g hg).2 (fun e => hne2 (by rw [hg, e])))
  go_wp2_with (fail)
  refine bodyPost_ret (v := .tuple #[.int .i64 s.size, .nilIface]) (by simp [results, Tryz.results46, go_sem]) rfl ?_
  exact ⟨⟨_, rfl⟩, _, ⟨hBb, ⟨_, .inr rfl, hb3⟩, hown3, hne2⟩, hat3, ((K1.mono (fun _ _ q => .inl q)).trans (K2.mono (fun _ _ q => .inr q))).trans (K3.mono (fun _ _ q => .inl q))⟩
theorem stringC (B b : Nat) (v : Value) (l : List UInt8) (w : World) (h : BAt B w b v l) (hB : B ≤ w.heap.size) :
    Calls Tryz.prog 48 #[.pointer (some ⟨b, 0, none⟩)] w fun e w' => e = .returned (.string ⟨l.toArray⟩) ∧ Below B w w' ∧ ∀ (k : Nat) (ds : Option (List Deferred)), w.heap[k]? = some (Obj.deferred ds) → w'.heap[k]? = some (Obj.deferred ds) := by
  obtain ⟨hBb, ⟨p, hp, hb⟩, hown, hne⟩ := h
  have hown' : w.ownsRow B 5 1 v (Lib.byteCells l).length (Lib.byteCells l) := by rw [Lib.byteCells_length]; exact hown
  refine (Tryz.Builder_String_any_k B b l w (Lib.IsBuilderF.of ?_) hB).mono ?_
  · rcases hp with rfl | rfl
    · exact .inl ⟨hBb, v, hb, hown', hne⟩
    · exact .inr ⟨hBb, v, hb, hown', hne⟩
  · rintro e w' ⟨rfl, -, h2, h3⟩
    refine ⟨rfl, h2, fun k ds hk => h3 k (Obj.deferred ds) hk (fun e => ?_) (fun c fz e => by cases e)⟩
    cases e
    rw [hb] at hk; cases hk
end K98
namespace KB
open Go Go.RowKit
set_option linter.unusedVariables false
set_option linter.unusedSimpArgs false
variable {α : Type}
/-- A row that was made anew, of what is read elsewhere. -/
theorem own_new {R : Rd α} {F : Nat → Prop} {w w' : World} {e : TypeId} {v' : Value} {l m : List α} {olds news : List Value}
    (ho : w'.ownsRow w.heap.size e R.sz v' (l.length + m.length) (olds ++ news)) (hg : w.grownBy w' none) (h : ∀ k x, l[k]? = some x → R.C F w ((olds.drop (k * R.sz)).take R.sz) x) (hx : olds.length = l.length * R.sz)
    (hm : ∀ k x, m[k]? = some x → R.C F w ((news.drop (k * R.sz)).take R.sz) x) (hn : news.length = m.length * R.sz) : R.Own F w.heap.size e w' v' (l ++ m) := by
  have hall : ∀ k x, (l ++ m)[k]? = some x → R.C F w (((olds ++ news).drop (k * R.sz)).take R.sz) x := by
    intro k x hk
    rcases Nat.lt_or_ge k l.length with hlt | hge
    · rw [List.getElem?_append_left hlt] at hk
      have e : k * R.sz + R.sz ≤ olds.length := by rw [hx, ← Nat.succ_mul]; exact Nat.mul_le_mul_right _ hlt
      rw [List.drop_append_of_le_length (by omega), List.take_append_of_le_length (by simp; omega)]
      exact h k x hk
    · rw [List.getElem?_append_right hge] at hk
      obtain ⟨j, rfl⟩ : ∃ j, k = l.length + j := ⟨k - l.length, by omega⟩
      rw [Nat.add_sub_cancel_left] at hk
      have := hm j x hk
      rw [Nat.add_mul, ← hx, List.drop_append, List.drop_of_length_le (by omega), List.nil_append, Nat.add_sub_cancel_left]
      exact this
  refine ⟨olds ++ news, by rw [List.length_append]; exact ho, fun k x hk => ?_⟩
  have h1 := R.narrow (G := Fv F v') (fun i hi hG => hG.elim id (fun q => absurd (ho.lt i q).1 (by omega))) (hall k x hk)
  exact R.keep (w' := w') ⟨hg.os, hg.tape, hg.output, hg.size, fun i hi hn => hg.block i hi (by simp)⟩ h1
theorem ext_grown {w w' : World} (h : w.grownBy w' none) : Ext w w' := (Ext.refl w).grown h (fun k hk => by cases hk)
section
variable {P : Program} {ops : Array Oper} {o : Oper} {a : Act} {Q : Exit → Act → World → Prop} {w : World} {K : Act → World → Prop} {E : Prop}
/-- append(l, y), l full, as a step of a region. -/
theorem step_clip (hgd : o.guard = none) (s x : Operand) (t : TypeId) (ho : o.op = .call { callee := .builtin .append, args := #[s, x], argTypes := #[t, t] })
    (R : Rd α) {F : Nat → Prop} {e : TypeId} {bytes : Nat} (hE : El P t e R.sz bytes) {A : Option Addr} {n : Nat} {l : List α} (hs : a.eval s = .slice A n n) (hn : n = l.length) (hl : R.Sl F w A n l)
    {g : Nat} {c : Nat} (hx : a.eval x = .slice (some ⟨g, 0, none⟩) 1 c) {cs : Array Value} {te : TypeId} {fr : Nat × Nat} (hc : w.heap[g]? = some (.cells cs te fr)) {y : α} (hy : R.C F w cs.toList y)
    (hlen : (l.length + 1) * bytes ≤ 140737488355328) (hl2 : l.length + 1 ≤ maxLen)
    (h : ∀ v' w', R.Own F w.heap.size e w' v' (l ++ [y]) → Ext w w' → K (a.put o.dst v') w') : if Region.wanted o (yielded ops a.tmps) = true then Oper.wp P o a w K Q else E := by
  subst hn
  obtain ⟨hu, i, z, hi, hz, hsz, hb, hzs, hp⟩ := hE
  have hyl := R.len hy
  have hcells : ∃ olds : List Value, olds.length = l.length * R.sz ∧ (∀ b, A = some b → ∀ j u, olds[j]? = some u → w.cell? (b.add j) = some u) ∧ (∀ k x, l[k]? = some x → R.C F w ((olds.drop (k * R.sz)).take R.sz) x) := by
    rcases Nat.eq_zero_or_pos l.length with h0 | h0
    · obtain rfl : l = [] := List.eq_nil_of_length_eq_zero h0
      exact ⟨[], by simp, fun b _ j u hj => by simp at hj, fun k x hk => by simp at hk⟩
    · obtain ⟨b, o', rfl, _⟩ := hl.get h0
      obtain ⟨cs, h1, h2, h3, _⟩ := hl.cells
      exact ⟨cs, h1, fun b' hb' j u hj => by cases hb'; rw [Addr.add_lit]; exact h2 j u hj, fun k x hk => (h3 k x hk).2⟩
  obtain ⟨olds, o1, o2, o3⟩ := hcells
  refine step_append_grows hgd s x t ho e i z R.sz bytes hu hi hz hsz hb hzs hp A l.length l.length olds hs (fun hA => by have := hl.nil_ hA; omega) o1 o2 ⟨g, 0, none⟩ 1 c cs.toList hx (by omega) (fun j u hj => by rw [Addr.add_lit, Nat.zero_add, cell_of_row w g j cs te fr hc]; simpa using hj) (R.one hy) (by omega) hl2 hlen ?_
  intro v' w' hown hgr
  refine h v' w' (own_new (m := [y]) hown hgr o3 o1 (fun k y' hk => ?_) (by simp; omega)) (ext_grown hgr)
  match k, hk with
  | 0, hk => simp at hk; subst hk; rw [Nat.zero_mul, List.drop_zero, List.take_of_length_le (by omega)]; exact hy
end
end KB
namespace KB
open Go Go.RowKit Go.Maps
set_option linter.unusedVariables false
set_option linter.unusedSimpArgs false
section
variable {P : Program} {ops : Array Oper} {Q : Exit → Act → World → Prop}
theorem wpOp_value {i : Nat} {o : Oper} {a : Act} {w w' : World} {v : Value} {K : Act → World → Prop} (ho : ops[i]? = some o) (hg : o.guard = none) (hr : (execOp a.eval o).run P w = .ok (.value v) w') (h : K (a.put o.dst v) w') : wpOp P ops Q i K a w := by
  unfold wpOp
  rw [ho]
  simp only [Region.wanted, hg, if_true]
  left
  unfold Oper.wp
  rw [hr]
  exact h
theorem wpOp_skip {i : Nat} {o : Oper} {a : Act} {w w' : World} {K : Act → World → Prop} (ho : ops[i]? = some o) (hg : o.guard = none) (hr : (execOp a.eval o).run P w = .ok .skip w') (h : K (a.put o.dst undef) w') : wpOp P ops Q i K a w := by
  unfold wpOp
  rw [ho]
  simp only [Region.wanted, hg, if_true]
  left
  unfold Oper.wp
  rw [hr]
  exact h
theorem countP_set (p q : Nat → Bool) (i : Nat) (hp : p i = true) (hq : ∀ j, q j = (p j && !decide (j = i))) : ∀ n, (List.range n).countP q + (if i < n then 1 else 0) = (List.range n).countP p := by
  intro n
  induction n with
  | zero => rfl
  | succ n ih =>
    rw [List.range_succ, List.countP_append, List.countP_append, List.countP_singleton, List.countP_singleton]
    have hqn := hq n
    rcases Nat.lt_trichotomy i n with h | h | h
    · have e : q n = p n := by rw [hqn, decide_eq_false (show ¬ n = i by omega)]; simp
      rw [e]
      simp only [h, Nat.lt_succ_of_lt h, if_true] at ih ⊢
      omega
    · subst h
      have e : q i = false := by rw [hqn]; simp
      rw [e, hp]
      simp only [Nat.lt_irrefl, Nat.lt_succ_self, if_true, if_false] at ih ⊢
      simp at ih ⊢
      omega
    · have e : q n = p n := by rw [hqn, decide_eq_false (show ¬ n = i by omega)]; simp
      rw [e]
      simp only [show ¬ i < n by omega, show ¬ i < n + 1 by omega, if_false] at ih ⊢
      omega
/-- A region in whatever order: J is what is known when those of L are done. -/
theorem region_done {id : Nat} {a : Act} {w : World} (hm : P.follows .mixedOrders = true) (J : (Nat → Bool) → Act → World → Prop)
    (hback : ∀ (i : Nat) o, ops[i]? = some o → ∀ e ∈ o.after, e.on < i) (h0 : J (fun _ => false) a w.drew)
    (hstep : ∀ L a w (i : Nat) o, J L a w → ops[i]? = some o → L i = false → (∀ e ∈ o.after, Region.binds .any e = true → L e.on = true) → wpOp P ops Q i (J (fun j => L j || decide (j = i))) a w)
    (hend : ∀ L a w, J L a w → (∀ i, i < ops.size → L i = true) → Q .normal a w) : (Code.region id ops true).wp P Q a w := by
  refine wp_region_any hm ?_
  have hready : ∀ listed : Array Bool, listed.size = ops.size → Region.ready .any ops listed = [] → ∀ i, i < ops.size → listed.getD i false = true := by
    intro listed hs hr i
    induction i using Nat.strongRecOn with
    | ind i ih =>
      intro hi
      cases hc : listed.getD i false with
      | true => rfl
      | false =>
        exfalso
        have hmem : i ∈ Region.ready .any ops listed := by
          refine List.mem_filter.2 ⟨List.mem_range.2 hi, ?_⟩
          have e1 : listed.getD i true = false := by
            simp only [Array.getD_eq_getD_getElem?, Array.getElem?_eq_getElem (show i < listed.size by omega), Option.getD_some] at hc ⊢; exact hc
          rw [e1, Array.getElem?_eq_getElem hi]
          simp only [Bool.not_false, Bool.true_and, Option.map_some, Option.getD_some, Array.all_eq_true_iff_forall_mem]
          intro e he
          have := hback i _ (Array.getElem?_eq_getElem hi) e he
          rw [ih e.on this (by omega)]; simp
        rw [hr] at hmem
        cases hmem
  have main : ∀ fuel (listed : Array Bool) a w, listed.size = ops.size → (List.range ops.size).countP (fun i => !listed.getD i false) ≤ fuel → J (fun j => listed.getD j false) a w → wpAny P .any ops Q fuel listed a w := by
    intro fuel
    induction fuel with
    | zero =>
      intro listed a w hs hc hJ
      have hall : ∀ i, i < ops.size → listed.getD i false = true := fun i hi => by
        have h1 := List.countP_eq_zero.1 (Nat.le_zero.1 hc) i (List.mem_range.2 hi)
        simpa using h1
      refine ⟨?_, hend _ _ _ hJ hall⟩
      rw [Region.ready, List.filter_eq_nil_iff]
      intro i hi
      have hi := List.mem_range.1 hi
      have h1 := hall i hi
      have e1 : listed.getD i true = true := by
        simp only [Array.getD_eq_getD_getElem?, Array.getElem?_eq_getElem (show i < listed.size by omega), Option.getD_some] at h1 ⊢; exact h1
      rw [e1]; simp
    | succ fuel ih =>
      intro listed a w hs hc hJ
      refine ⟨fun hr => hend _ _ _ hJ (hready listed hs hr), fun i hi => ?_⟩
      have hmem := List.mem_filter.1 hi
      have hil := List.mem_range.1 hmem.1
      have h2 := hmem.2
      rw [Array.getElem?_eq_getElem hil] at h2
      simp only [Option.map_some, Option.getD_some, Bool.and_eq_true, Bool.not_eq_true', Array.all_eq_true_iff_forall_mem] at h2
      have e1 : listed.getD i false = false := by
        have := h2.1
        simp only [Array.getD_eq_getD_getElem?, Array.getElem?_eq_getElem (show i < listed.size by omega), Option.getD_some] at this ⊢; exact this
      have hset : ∀ j, (listed.setIfInBounds i true).getD j false = (listed.getD j false || decide (j = i)) := by
        intro j
        simp only [Array.getD_eq_getD_getElem?, Array.getElem?_setIfInBounds]
        by_cases e : i = j
        · subst e; simp [show i < listed.size by omega]
        · have : ¬ j = i := fun q => e q.symm
          simp [e, this]
      refine wpOp_mono (fun a' w' hJ' => ih _ a' w' (by simpa using hs) ?_ ?_) (hstep _ a w i _ hJ (Array.getElem?_eq_getElem hil) e1 (fun e he hb => by
        have := h2.2 e he
        rw [hb] at this; simpa using this))
      · have := countP_set (fun j => !listed.getD j false) (fun j => !(listed.setIfInBounds i true).getD j false) i (by simp only [e1]; rfl) (fun j => by simp only [hset j]; cases listed.getD j false <;> simp) ops.size
        rw [if_pos hil] at this
        omega
      · have e : (fun j => (listed.setIfInBounds i true).getD j false) = fun j => (listed.getD j false || decide (j = i)) := funext hset
        rw [e]; exact hJ'
  refine main ops.size _ a _ (by simp) (Nat.le_trans List.countP_le_length (by simp)) ?_
  have e : (fun j => (Array.replicate ops.size false).getD j false) = fun _ => false := by
    funext j
    simp only [Array.getD_eq_getD_getElem?, Array.getElem?_replicate]
    split <;> rfl
  rw [e]; exact h0
/-- What is known while a map is filled. -/
structure LitJ (P : Program) (ops : Array Oper) (a0 : Act) (w0 : World) (kt : TypeId) (R : Value → Option (DataW Unit × List MemPlace)) (val : Nat → Value) (ins : Nat → Option (Lit × DataW Unit)) (L : Nat → Bool) (a : Act) (w : World) : Prop where
  val : ∀ (i : Nat) o d, L i = true → ops[i]? = some o → o.dst = some d → a.eval (.tmp d) = val i
  old : ∀ d, (∀ (i : Nat) o, ops[i]? = some o → o.dst ≠ some d) → a.eval (.tmp d) = a0.eval (.tmp d)
  size : a.tmps.size = a0.tmps.size
  def_ : a.defers = a0.defers
  ext : Ext w0 w
  new : L 0 = false → w.heap.size = w0.heap.size
  pre : ∀ i z, L i = true → ins i = some z → L 0 = true
  map : L 0 = true → ∃ D n, n ≤ (List.range ops.size).countP L ∧ w.ownsMap P kt R w0.heap.size n D ∧ ∀ i kl d, L i = true → ins i = some (kl, d) → ∀ z, D.atKey kl z = d
theorem eval_put (a : Act) (d e : Nat) (v : Value) (hd : d < a.tmps.size) : (a.put (some d) v).eval (.tmp e) = if e = d then v else a.eval (.tmp e) := by
  show (a.tmps.setIfInBounds d v).getD e undef = if e = d then v else a.tmps.getD e undef
  simp only [Array.getD_eq_getD_getElem?, Array.getElem?_setIfInBounds]
  by_cases h : d = e
  · subst h; simp [hd]
  · have : ¬ e = d := fun q => h q.symm
    simp [h, this]
theorem lit_region {id : Nat} {a0 : Act} {w0 : World} (hm : P.follows .mixedOrders = true) {kt et : TypeId} (K : Keyed P kt) (R : Value → Option (DataW Unit × List MemPlace)) (val : Nat → Value) (ins : Nat → Option (Lit × DataW Unit)) {t : TypeId} (ht : P.underlying t = some (.map kt et))
    (hsz : ops.size ≤ 1000) (hback : ∀ (i : Nat) o, ops[i]? = some o → ∀ e ∈ o.after, e.on < i) (hg : ∀ (i : Nat) o, ops[i]? = some o → o.guard = none)
    (hdst : ∀ (i j : Nat) oi oj d, ops[i]? = some oi → ops[j]? = some oj → oi.dst = some d → oj.dst = some d → i = j) (hdl : ∀ (i : Nat) o d, ops[i]? = some o → o.dst = some d → d < a0.tmps.size)
    (hkeys : ∀ i j k k' d d', ins i = some (k, d) → ins j = some (k', d') → ¬ i = j → ¬ k = k')
    (h0 : ∃ o d, ops[0]? = some o ∧ o.op = .makeMap t none ∧ o.dst = some d ∧ val 0 = .map (some w0.heap.size) ∧ ins 0 = none)
    (hop : ∀ (i : Nat) o, ops[i]? = some o → i ≠ 0 → ∀ a : Act, (∀ e ∈ o.after, Region.binds .any e = true → ∀ (o' : Oper) (d : Nat), ops[e.on]? = some o' → o'.dst = some d → a.eval (.tmp d) = val e.on) → (∀ d, (∀ (i : Nat) o, ops[i]? = some o → o.dst ≠ some d) → a.eval (.tmp d) = a0.eval (.tmp d)) →
      (ins i = none ∧ (∃ d, o.dst = some d) ∧ ∀ w, (execOp a.eval o).run P w = .ok (.value (val i)) w) ∨
      (∃ kl d m k v, ins i = some (kl, d) ∧ WideAt.IsKeyLit kl ∧ o.op = Op.insert t m k v ∧ o.dst = none ∧ a.eval m = .map (some w0.heap.size) ∧ (∃ ps, R (a.eval v) = some (d, ps)) ∧ keyOf P kt (a.eval k) = some kl ∧ ∃ e ∈ o.after, e.on = 0 ∧ Region.binds .any e = true))
    (hQ : ∀ a w, a.tmps.size = a0.tmps.size → a.defers = a0.defers → (∀ (i : Nat) o d, ops[i]? = some o → o.dst = some d → a.eval (.tmp d) = val i) → (∀ d, (∀ (i : Nat) o, ops[i]? = some o → o.dst ≠ some d) → a.eval (.tmp d) = a0.eval (.tmp d)) → Ext w0 w →
      (∃ D n, w.ownsMap P kt R w0.heap.size n D ∧ ∀ i kl d, i < ops.size → ins i = some (kl, d) → ∀ z, D.atKey kl z = d) → Q .normal a w) : (Code.region id ops true).wp P Q a0 w0 := by
  refine region_done hm (LitJ P ops a0 w0 kt R val ins) hback ?_ ?_ ?_
  · exact ⟨(fun _ _ _ h => by cases h), (fun _ _ => rfl), rfl, rfl, (Ext.refl w0).drew, (fun _ => rfl), (fun _ _ h => by cases h), (fun h => by cases h)⟩
  · intro L a w i o hJ ho hL hdep
    have hgd := hg i o ho
    have hil : i < ops.size := (Array.getElem?_eq_some_iff.1 ho).1
    have hmono : ∀ j, L j = true → (L j || decide (j = i)) = true := fun j h => by rw [h]; rfl
    have hvals : ∀ (v : Value) (d : Nat), o.dst = some d → v = val i → ∀ (j : Nat) oj dj, (L j || decide (j = i)) = true → ops[j]? = some oj → oj.dst = some dj → (a.put (some d) v).eval (.tmp dj) = val j := by
      intro v d hd hv j oj dj hj hoj hdj
      rw [eval_put _ _ _ _ (by rw [hJ.size]; exact hdl i o d ho hd)]
      by_cases e : dj = d
      · subst e
        have := hdst j i oj o dj hoj ho hdj hd
        subst this
        rw [if_pos rfl]; exact hv
      · rw [if_neg e]
        refine hJ.val j oj dj ?_ hoj hdj
        by_cases e2 : j = i
        · subst e2
          rw [ho] at hoj; cases hoj
          rw [hd] at hdj; cases hdj
          exact absurd rfl e
        · rw [decide_eq_false e2, Bool.or_false] at hj; exact hj
    have hold : ∀ (v : Value) (d : Nat), o.dst = some d → ∀ dj, (∀ (i : Nat) o, ops[i]? = some o → o.dst ≠ some dj) → (a.put (some d) v).eval (.tmp dj) = a0.eval (.tmp dj) := by
      intro v d hd dj hdj
      rw [eval_put _ _ _ _ (by rw [hJ.size]; exact hdl i o d ho hd), if_neg (fun e => hdj i o ho (by rw [hd, e]))]
      exact hJ.old dj hdj
    have hcnt : (List.range ops.size).countP (fun j => L j || decide (j = i)) = (List.range ops.size).countP L + 1 := by
      have := countP_set (fun j => L j || decide (j = i)) L i (by simp) (fun j => by
        by_cases e : j = i
        · subst e; simp [hL]
        · simp [e]) ops.size
      rw [if_pos hil] at this
      omega
    by_cases hi0 : i = 0
    · subst hi0
      obtain ⟨o', d, ho', h1, h2, h3, h4⟩ := h0
      rw [ho] at ho'; cases ho'
      refine wpOp_value ho hgd (v := .map (some w.heap.size)) (w' := w.alloc (.map #[] 0)) (by simp [execOp, h1, run_makeMap]) ?_
      rw [h2, hJ.new hL]
      refine ⟨hvals _ d h2 h3.symm, hold _ d h2, (by show (a.tmps.setIfInBounds _ _).size = _; rw [Array.size_setIfInBounds]; exact hJ.size), hJ.def_, hJ.ext.alloc _, (fun h => by simp at h), (fun j z hj hz => by simp), fun _ => ⟨.map [], 0, Nat.zero_le _, ?_, fun j kl dd hj hins => ?_⟩⟩
      · have := World.ownsMap_made w P kt R
        rwa [hJ.new hL] at this
      · exfalso
        by_cases e : j = 0
        · subst e; rw [h4] at hins; cases hins
        · rw [decide_eq_false e, Bool.or_false] at hj
          have := hJ.pre j _ hj hins
          rw [hL] at this; cases this
    · rcases hop i o ho hi0 a (fun e he hb o' d ho' hd => hJ.val e.on o' d (hdep e he hb) ho' hd) hJ.old with ⟨h1, ⟨d, h2⟩, h3⟩ | ⟨kl, dd, m, k, v, h1, hlit, h2, h3, h4, ⟨ps, h5⟩, h6, e, he, he0, heb⟩
      · refine wpOp_value ho hgd (h3 w) ?_
        rw [h2]
        refine ⟨hvals _ d h2 rfl, hold _ d h2, (by show (a.tmps.setIfInBounds _ _).size = _; rw [Array.size_setIfInBounds]; exact hJ.size), hJ.def_, hJ.ext, (fun h => hJ.new (by simp at h; exact h.1)), (fun j z hj hz => ?_), fun h => ?_⟩
        · by_cases e : j = i
          · subst e; rw [h1] at hz; cases hz
          · rw [decide_eq_false e, Bool.or_false] at hj
            exact hmono 0 (hJ.pre j z hj hz)
        · have hL0 : L 0 = true := by
            by_cases e : (0 : Nat) = i
            · exact absurd e.symm hi0
            · rw [decide_eq_false e, Bool.or_false] at h; exact h
          obtain ⟨D, n, g1, g2, g3⟩ := hJ.map hL0
          refine ⟨D, n, by rw [hcnt]; omega, g2, fun j kl d' hj hins => ?_⟩
          by_cases e : j = i
          · subst e; rw [h1] at hins; cases hins
          · rw [decide_eq_false e, Bool.or_false] at hj
            exact g3 j kl d' hj hins
      · have hL0 : L 0 = true := by have := hdep e he heb; rwa [he0] at this
        obtain ⟨D, n, g1, g2, g3⟩ := hJ.map hL0
        have hcl : (List.range ops.size).countP L ≤ ops.size := Nat.le_trans List.countP_le_length (by simp)
        obtain ⟨w', r1, r2, r3⟩ := g2.update K ht (by unfold maxLen; omega) h6 h5
        refine wpOp_skip ho hgd (w' := w') (by simp [execOp, h2, h4, r1]) ?_
        rw [h3]
        have hE : Ext w0 w' := hJ.ext.grown r3 (fun k hk => by cases hk; exact Nat.le_refl _)
        refine ⟨fun j oj dj hj hoj hdj => ?_, hJ.old, hJ.size, hJ.def_, hE, (fun h => by rw [hmono 0 hL0] at h; cases h), (fun _ _ _ _ => hmono 0 hL0), fun _ => ⟨D.put kl dd, n + 1, by rw [hcnt]; omega, r2, fun j kl' d' hj hins z => ?_⟩⟩
        · by_cases e2 : j = i
          · subst e2
            rw [ho] at hoj; cases hoj
            rw [h3] at hdj; cases hdj
          · rw [decide_eq_false e2, Bool.or_false] at hj
            exact hJ.val j oj dj hj hoj hdj
        · by_cases e2 : j = i
          · subst e2
            rw [h1] at hins; cases hins
            exact atKey_put_same g2.isMap hlit _ _
          · rw [decide_eq_false e2, Bool.or_false] at hj
            rw [atKey_put_other (hkeys j i kl' kl d' dd hins h1 e2)]
            exact g3 j kl' d' hj hins z
  · intro L a w hJ hall
    obtain ⟨o', d, ho', _⟩ := h0
    have h00 : 0 < ops.size := (Array.getElem?_eq_some_iff.1 ho').1
    obtain ⟨D, n, _, h1, h2⟩ := hJ.map (hall 0 h00)
    exact hQ a w hJ.size hJ.def_ (fun i o d ho hd => hJ.val i o d (hall i (Array.getElem?_eq_some_iff.1 ho).1) ho hd) hJ.old hJ.ext ⟨D, n, h1, fun i kl d hi hins => h2 i kl d (hall i hi) hins⟩
/-- An act of which all is known. -/
theorem act_of (a : Act) (vs : Array Value) (hs : a.tmps.size = vs.size) (h : ∀ d, d < vs.size → a.eval (.tmp d) = vs.getD d undef) (ds : List Deferred) (hd : a.defers = ds) : a = ⟨vs, ds⟩ := by
  obtain ⟨tm, df⟩ := a
  subst hd
  congr 1
  refine Array.ext hs (fun i h1 h2 => ?_)
  have := h i h2
  simpa [Act.eval, Array.getD_eq_getD_getElem?, h1, h2] using this
/-- Values told by their place in a list. -/
noncomputable def tblElem (T : List Value) (v : Value) : Option (DataW Unit × List MemPlace) := by
  classical exact if h : ∃ k : Nat, T[k]? = some v then some (.lit (.int .i64 ((Classical.choose h : Nat) : Int)), []) else none
noncomputable def tblD (T : List Value) (v : Value) : DataW Unit := ((tblElem T v).map (·.1)).getD (.lit (.int .i64 0))
theorem tblElem_mem {T : List Value} {v : Value} (h : v ∈ T) : tblElem T v = some (tblD T v, []) := by
  obtain ⟨k, hk⟩ := List.mem_iff_getElem?.1 h
  unfold tblD tblElem
  rw [dif_pos ⟨k, hk⟩]
  rfl
theorem tblElem_inj {T : List Value} {u v : Value} {ps : List MemPlace} (hu : u ∈ T) (h : tblElem T v = some (tblD T u, ps)) : v = u := by
  have h1 := tblElem_mem hu
  unfold tblElem at h h1
  split at h
  · rename_i hv
    split at h1
    · rename_i hu'
      simp only [Option.some.injEq, Prod.mk.injEq] at h h1
      have e := h.1.trans h1.1.symm
      simp only [DataW.lit.injEq, Lit.int.injEq, true_and, Int.natCast_inj] at e
      have s1 := Classical.choose_spec hv
      have s2 := Classical.choose_spec hu'
      rw [e] at s1
      exact Option.some.inj (s1.symm.trans s2)
    · cases h1
  · cases h
/-- A map that holds these entries. -/
def TblMap (P : Program) (kt : TypeId) (T : List Value) (w : World) (b : Nat) (es : List (Lit × Value)) : Prop := ∃ D n, w.ownsMap P kt (tblElem T) b n D ∧ ∀ p ∈ es, ∀ z, D.atKey p.1 z = tblD T p.2
theorem TblMap.look {P : Program} {kt et t : TypeId} {T : List Value} {w : World} {b : Nat} {es : List (Lit × Value)} (h : TblMap P kt T w b es) (K : Keyed P kt) (ht : P.underlying t = some (.map kt et)) {z : Value} (hz : (zeroValue et).run P w = .ok z w) (hzT : z ∈ T)
    {key : Value} {kl : Lit} {v : Value} (hkey : keyOf P kt key = some kl) (hm : (kl, v) ∈ es) (hv : v ∈ T) : (Instr.lookup t (.map (some b)) key false).run P w = .ok v w := by
  obtain ⟨D, n, h1, h2⟩ := h
  obtain ⟨u, ps, hr, hu⟩ := h1.lookup K ht hz (tblElem_mem hzT) hkey
  rw [h2 _ hm] at hu
  rw [hr, tblElem_inj hv hu]
theorem TblMap.ext {P : Program} {kt : TypeId} {T : List Value} {w w' : World} {b : Nat} {es : List (Lit × Value)} (h : TblMap P kt T w b es) (k : Ext w w') : TblMap P kt T w' b es := by
  obtain ⟨D, n, ⟨es', clock, hb, rest⟩, h2⟩ := h
  exact ⟨D, n, ⟨es', clock, k.blk hb, rest⟩, h2⟩
theorem TblMap.keep {F : Nat → Prop} {P : Program} {kt : TypeId} {T : List Value} {w w' : World} {b : Nat} {es : List (Lit × Value)} (h : TblMap P kt T w b es) (k : Keep F w w') (hb : ¬ F b) : TblMap P kt T w' b es := by
  obtain ⟨D, n, ⟨es', clock, hbb, rest⟩, h2⟩ := h
  exact ⟨D, n, ⟨es', clock, k.blk hb hbb, rest⟩, h2⟩
theorem TblMap.lt {P : Program} {kt : TypeId} {T : List Value} {w : World} {b : Nat} {es : List (Lit × Value)} (h : TblMap P kt T w b es) : b < w.heap.size := by
  obtain ⟨D, n, h1, _⟩ := h; exact h1.lt
/-- What can be looked up of a region's operations: each waits for elder ones alone, none is guarded, each has a slot of its own. -/
def litOk (ops : Array Oper) (n : Nat) : Bool := (List.range ops.size).all fun i => match ops[i]? with
  | some o => o.after.all (fun e => decide (e.on < i)) && o.guard.isNone && (match o.dst with | some d => decide (d < n) && (List.range i).all (fun j => match ops[j]? with | some o' => decide (o'.dst ≠ some d) | none => true) | none => true)
  | none => true
theorem litOk_out {n : Nat} (h : litOk ops n = true) : (∀ (i : Nat) o, ops[i]? = some o → ∀ e ∈ o.after, e.on < i) ∧ (∀ (i : Nat) o, ops[i]? = some o → o.guard = none) ∧
    (∀ (i j : Nat) oi oj d, ops[i]? = some oi → ops[j]? = some oj → oi.dst = some d → oj.dst = some d → i = j) ∧ (∀ (i : Nat) o d, ops[i]? = some o → o.dst = some d → d < n) := by
  have key : ∀ (i : Nat) o, ops[i]? = some o → (o.after.all (fun e => decide (e.on < i)) && o.guard.isNone && (match o.dst with | some d => decide (d < n) && (List.range i).all (fun j => match ops[j]? with | some o' => decide (o'.dst ≠ some d) | none => true) | none => true)) = true := by
    intro i o ho
    have := List.all_eq_true.1 h i (List.mem_range.2 (Array.getElem?_eq_some_iff.1 ho).1)
    rw [ho] at this
    exact this
  have lt : ∀ (i j : Nat) oi oj d, ops[i]? = some oi → ops[j]? = some oj → oi.dst = some d → oj.dst = some d → ¬ j < i := by
    intro i j oi oj d hi hj di dj hlt
    have := key i oi hi
    rw [di] at this
    simp only [Bool.and_eq_true] at this
    have := List.all_eq_true.1 this.2.2 j (List.mem_range.2 hlt)
    rw [hj] at this
    simp [dj] at this
  refine ⟨fun i o ho e he => ?_, fun i o ho => ?_, fun i j oi oj d hi hj di dj => ?_, fun i o d ho hd => ?_⟩
  · have := key i o ho
    simp only [Bool.and_eq_true, Array.all_eq_true_iff_forall_mem, decide_eq_true_eq] at this
    exact this.1.1 e he
  · have := key i o ho
    simp only [Bool.and_eq_true, Option.isNone_iff_eq_none] at this
    exact this.1.2
  · have h1 := lt i j oi oj d hi hj di dj
    have h2 := lt j i oj oi d hj hi dj di
    omega
  · have := key i o ho
    rw [hd] at this
    simp only [Bool.and_eq_true, decide_eq_true_eq] at this
    exact this.2.1
def noDst (ops : Array Oper) (d : Nat) : Bool := ops.all fun o => decide (o.dst ≠ some d)
theorem noDst_out {d : Nat} (h : noDst ops d = true) : ∀ (i : Nat) o, ops[i]? = some o → o.dst ≠ some d := by
  intro i o ho
  have := (Array.all_eq_true_iff_forall_mem.1 h) o (Array.mem_of_getElem? ho)
  simpa using this
end
end KB
namespace K1
open Go Go.RowKit KB
set_option linter.unusedVariables false
set_option linter.unusedSimpArgs false
set_option maxHeartbeats 1000000
set_option maxRecDepth 100000
theorem within (n lo hi : Int) (w : World) : Calls Tryz.prog 61 #[.int .i64 n, .int .i64 lo, .int .i64 hi] w fun e w' => e = .returned (.bool (decide (lo ≤ n ∧ n ≤ hi))) ∧ w = w' := by
  by_cases h : lo ≤ n
  · have h1 : decide (lo ≤ n) = true := decide_eq_true h
    by_cases k : n ≤ hi
    · have k1 : decide (n ≤ hi) = true := decide_eq_true k
      go_enter Tryz.func61, Tryz.ntmps61
      go_wp2
      go_ret
      simp [h, k]
    · have k1 : decide (n ≤ hi) = false := decide_eq_false k
      go_enter Tryz.func61, Tryz.ntmps61
      go_wp2
      go_ret
      simp [h, k]
  · have h1 : decide (lo ≤ n) = false := decide_eq_false h
    go_enter Tryz.func61, Tryz.ntmps61
    go_wp2
    go_ret
    simp [h]
/-- fn is a function with a body: a call of it enters it. -/
def IsFn (fn : Nat) : Prop := ∀ (args : Array Value) (W : World), (callFunc fn args).run Tryz.prog W = .ok (.enter fn args) W
/-- A test that holds of no element finds none. -/
theorem idxInt (F : Nat → Prop) (A : Option Addr) (c : Nat) (l : List Int) (fn : Nat) (caps : Array Value) (w : World) (hA : (rdInt .i64).Sl F w A c l) (hn : l.length ≤ 1000000)
    (hen : IsFn fn) (hf : ∀ W k (hk : k < l.length), Ext w W → Calls Tryz.prog fn (#[.int .i64 l[k]] ++ caps) W fun e w' => e = .returned (.bool false) ∧ Ext W w') :
    Calls Tryz.prog 168 #[.slice A l.length c, .func (.func fn) #[] caps] w fun e w' => e = .returned (.int .i64 (-1)) ∧ Ext w w' := by
  go_enter Tryz.func168, Tryz.ntmps168
  go_wp2_with (fail)
  go_loopw [5, 8] (fun _ i wr => ∃ k : Nat, i = .int .i64 k ∧ k ≤ l.length ∧ Ext w wr) (fun _ i _ => l.length - (intOf i).toNat)
  case atStart => exact ⟨0, by go_num, Nat.zero_le _, Ext.refl _⟩
  case round =>
    obtain ⟨k, rfl, hkl, hE⟩ := hrel
    by_cases hlt : k < l.length
    · obtain ⟨b, o, rfl, hc⟩ := int_get (hA.ext hE) hlt
      have hent := hen (#[.int .i64 l[k]] ++ caps)
      go_wp2_with (fail)
      refine (hf wr k hlt hE).mono ?_; rintro e w1 ⟨rfl, hb⟩
      go_wp2
      go_roundw
      case rel => exact ⟨k + 1, by go_num, by omega, hE.trans hb⟩
      case measure => simp [intOf]; omega
    · go_wp2
      go_ret
      exact ⟨rfl, hE⟩
theorem hasInt (F : Nat → Prop) (A : Option Addr) (c : Nat) (l : List Int) (fn : Nat) (caps : Array Value) (w : World) (hA : (rdInt .i64).Sl F w A c l) (hn : l.length ≤ 1000000) (hen : IsFn fn)
    (hf : ∀ W k (hk : k < l.length), Ext w W → Calls Tryz.prog fn (#[.int .i64 l[k]] ++ caps) W fun e w' => e = .returned (.bool false) ∧ Ext W w') :
    Calls Tryz.prog 84 #[.slice A l.length c, .func (.func fn) #[] caps] w fun e w' => e = .returned (.bool false) ∧ Ext w w' := by
  go_enter Tryz.func84, Tryz.ntmps84
  go_wp2_with (fail)
  refine (idxInt F A c l fn caps w hA hn hen hf).mono ?_; rintro e w1 ⟨rfl, hb⟩
  go_wp2
  go_ret
  exact ⟨rfl, hb⟩
/-! ### schemas -/
structure Sch where
  types : List Int
  keys : Nat
  mode : Nat
  grain : Nat
/-- A schema as a value. -/
abbrev schV (A : Option Addr) (c : Nat) (s : Sch) : Value := .agg #[.slice A s.types.length c, .int .i64 s.keys, .int .i64 s.mode, .int .i64 s.grain]
/-- A schema's types stand there. -/
def SchAt (F : Nat → Prop) (w : World) (A : Option Addr) (c : Nat) (s : Sch) : Prop := (rdInt .i64).Sl F w A c s.types
/-- A schema that may be. -/
structure Sch.Ok (s : Sch) : Prop where
  n1 : 1 ≤ s.types.length
  n2 : s.types.length ≤ 64
  t : ∀ t ∈ s.types, 1 ≤ t ∧ t ≤ 3
  k1 : 1 ≤ s.keys
  k2 : s.keys ≤ s.types.length
  m1 : 1 ≤ s.mode
  m2 : s.mode ≤ 3
  g1 : 1 ≤ s.grain
  g2 : s.grain ≤ 64
theorem oddType (t : Int) (h : 1 ≤ t ∧ t ≤ 3) (w : World) : Calls Tryz.prog 83 #[.int .i64 t] w fun e w' => e = .returned (.bool false) ∧ Ext w w' := by
  go_enter Tryz.func83, Tryz.ntmps83
  go_wp2_with (fail)
  refine (within _ _ _ _).mono ?_; rintro e w1 ⟨rfl, rfl⟩
  rw [decide_eq_true h]
  go_wp2
  go_ret
  exact ⟨rfl, Ext.refl _⟩
theorem checkC (F : Nat → Prop) (A : Option Addr) (c : Nat) (s : Sch) (w : World) (hA : SchAt F w A c s) (hs : s.Ok) :
    Calls Tryz.prog 35 #[schV A c s] w fun e w' => e = .returned (.int .i64 0) ∧ Ext w w' := by
  obtain ⟨h1, h2, h3, h4, h5, h6, h7, h8, h9⟩ := hs
  go_enter Tryz.func35, Tryz.ntmps35
  go_wp2_with (fail)
  refine (within _ _ _ _).mono ?_; rintro e w1 ⟨rfl, rfl⟩
  rw [decide_eq_true (by omega)]
  go_wp2_with (fail)
  refine (hasInt F A c s.types _ #[] _ (Rd.Sl.ext hA ((Ext.refl w).alloc _)) (by omega) (fun _ _ => rfl) (fun W k hk _ => oddType _ (h3 _ (List.getElem_mem hk)) W)).mono ?_; rintro e w2 ⟨rfl, hb⟩
  have hc := hb.cs
  go_wp2_with (refine (within _ _ _ _).mono ?_; rintro e w1 ⟨rfl, rfl⟩; rw [decide_eq_true (by omega)])
  go_ret
  exact ⟨rfl, ((Ext.refl w).alloc _).trans hb⟩
end K1
end Go.Proofs.YtbjeejimedhniaaGreatDoor
namespace Go.Proofs
open Go.Shelf
def Tryz.lays106_ren : Go.Shelf.Ren := ⟨fun | 106 => 220 | 213 => 301 | 265 => 340 | n => n, fun | 9 => 9 | 3 => 3 | n => n, fun | n => n⟩
theorem Tryz.lays106 : Go.Proofs.Lays.n106 Tryz.prog Tryz.lays106_ren := {
  mixed := by kernel_rfl
  f106 := Tryz.func220.trans (congrArg some (by kernel_rfl))
  f213 := Tryz.func301.trans (congrArg some (by kernel_rfl))
  f265 := Tryz.func340.trans (congrArg some (by kernel_rfl))
  t3 := Tryz.underlying3
  a3 := Tryz.isAgg3
  z3 := Tryz.sizeOf3
  v3 := Tryz.zeroValue3
  t9 := Tryz.underlying9
  a9 := Tryz.isAgg9
  z9 := Tryz.sizeOf9
  v9 := Tryz.zeroValue9 }
open Go.RowKit in
theorem Tryz.strings_Compare (a b : ByteArray) (w : World) :
    Calls Tryz.prog 220 #[.string a, .string b] w fun e w' => e = .returned (.int .i64 (Lib.compareBytes a.data.toList b.data.toList)) ∧ w' = w := Any.strings_Compare Tryz.lays106 a b w
end Go.Proofs
namespace Go.Proofs.YtbjeejimedhniaaGreatDoor
namespace K2
open Go Go.RowKit KB K1
set_option linter.unusedVariables false
set_option linter.unusedSimpArgs false
set_option maxHeartbeats 1000000
set_option maxRecDepth 100000
def I64 (n : Int) : Prop := -9223372036854775808 ≤ n ∧ n ≤ 9223372036854775807
abbrev emp : ByteArray := ⟨#[]⟩
/-- A value of a type. -/
def ValOk (t : Int) (v : Val) : Prop := I64 v.1 ∧ ((t = 1 ∨ t = 2) ∧ v.2 = emp ∨ t = 3 ∧ v.1 = 0 ∧ v.2.size ≤ 60)
abbrev valV (v : Val) : Value := .agg #[.int .i64 v.1, .string v.2]
theorem fits (t : Int) (v : Val) (h : ValOk t v) (w : World) : Calls Tryz.prog 124 #[.int .i64 t, valV v] w fun e w' => e = .returned (.bool true) ∧ Ext w w' := by
  obtain ⟨n, s⟩ := v
  obtain ⟨_, h⟩ := h
  rcases h with ⟨rfl | rfl, rfl⟩ | ⟨rfl, rfl, hs⟩
  · go_enter Tryz.func124, Tryz.ntmps124
    go_wp2
    go_ret
    exact ⟨rfl, (Ext.refl w).alloc _⟩
  · go_enter Tryz.func124, Tryz.ntmps124
    go_wp2
    go_ret
    exact ⟨rfl, (Ext.refl w).alloc _⟩
  · have h1 : decide ((s.size : Int) ≤ 60) = true := decide_eq_true (by simp at hs; omega)
    go_enter Tryz.func124, Tryz.ntmps124
    go_wp2
    go_ret
    exact ⟨by first | rfl | (simp at h1 hs; simp [hs]), (Ext.refl w).alloc _⟩
def cmpI (a b : Int) : Int := if a < b then -1 else if b < a then 1 else 0
theorem nanU (a : Int) (w : World) : Calls Tryz.prog 302 #[.int .u64 a] w fun e w' => e = .returned (.bool false) ∧ w = w' := by
  go_enter Tryz.func302, Tryz.ntmps302
  go_wp2
  go_ret
  simp
theorem cmpUC (a b : Int) (w : World) : Calls Tryz.prog 221 #[.int .u64 a, .int .u64 b] w fun e w' => e = .returned (.int .i64 (cmpI a b)) ∧ w = w' := by
  unfold cmpI
  rcases Int.lt_trichotomy a b with h | h | h
  · have h1 : decide (a < b) = true := decide_eq_true h
    go_enter Tryz.func221, Tryz.ntmps221
    go_wp2_with (refine (nanU _ _).mono ?_; rintro e w' ⟨rfl, rfl⟩)
    go_ret
    simp [h]
  · subst h
    have h1 : decide (a < a) = false := decide_eq_false (by omega)
    go_enter Tryz.func221, Tryz.ntmps221
    go_wp2_with (refine (nanU _ _).mono ?_; rintro e w' ⟨rfl, rfl⟩)
    go_ret
    simp
  · have h0 : ¬ a < b := by omega
    have h1 : decide (a < b) = false := decide_eq_false h0
    have h2 : decide (b < a) = true := decide_eq_true h
    go_enter Tryz.func221, Tryz.ntmps221
    go_wp2_with (refine (nanU _ _).mono ?_; rintro e w' ⟨rfl, rfl⟩)
    go_ret
    simp [h, h0]
theorem nanI (a : Int) (w : World) : Calls Tryz.prog 303 #[.int .i64 a] w fun e w' => e = .returned (.bool false) ∧ w = w' := by
  go_enter Tryz.func303, Tryz.ntmps303
  go_wp2
  go_ret
  simp
theorem cmpIC (a b : Int) (w : World) : Calls Tryz.prog 222 #[.int .i64 a, .int .i64 b] w fun e w' => e = .returned (.int .i64 (cmpI a b)) ∧ w = w' := by
  unfold cmpI
  rcases Int.lt_trichotomy a b with h | h | h
  · have h1 : decide (a < b) = true := decide_eq_true h
    go_enter Tryz.func222, Tryz.ntmps222
    go_wp2_with (refine (nanI _ _).mono ?_; rintro e w' ⟨rfl, rfl⟩)
    go_ret
    simp [h]
  · subst h
    have h1 : decide (a < a) = false := decide_eq_false (by omega)
    go_enter Tryz.func222, Tryz.ntmps222
    go_wp2_with (refine (nanI _ _).mono ?_; rintro e w' ⟨rfl, rfl⟩)
    go_ret
    simp
  · have h0 : ¬ a < b := by omega
    have h1 : decide (a < b) = false := decide_eq_false h0
    have h2 : decide (b < a) = true := decide_eq_true h
    go_enter Tryz.func222, Tryz.ntmps222
    go_wp2_with (refine (nanI _ _).mono ?_; rintro e w' ⟨rfl, rfl⟩)
    go_ret
    simp [h, h0]
theorem nanN (a : Int) (w : World) : Calls Tryz.prog 409 #[.int .i64 a] w fun e w' => e = .returned (.bool false) ∧ w = w' := by
  go_enter Tryz.func409, Tryz.ntmps409
  go_wp2
  go_ret
  simp
theorem cmpNC (a b : Int) (w : World) : Calls Tryz.prog 441 #[.int .i64 a, .int .i64 b] w fun e w' => e = .returned (.int .i64 (cmpI a b)) ∧ w = w' := by
  unfold cmpI
  rcases Int.lt_trichotomy a b with h | h | h
  · have h1 : decide (a < b) = true := decide_eq_true h
    go_enter Tryz.func441, Tryz.ntmps441
    go_wp2_with (refine (nanN _ _).mono ?_; rintro e w' ⟨rfl, rfl⟩)
    go_ret
    simp [h]
  · subst h
    have h1 : decide (a < a) = false := decide_eq_false (by omega)
    go_enter Tryz.func441, Tryz.ntmps441
    go_wp2_with (refine (nanN _ _).mono ?_; rintro e w' ⟨rfl, rfl⟩)
    go_ret
    simp
  · have h0 : ¬ a < b := by omega
    have h1 : decide (a < b) = false := decide_eq_false h0
    have h2 : decide (b < a) = true := decide_eq_true h
    go_enter Tryz.func441, Tryz.ntmps441
    go_wp2_with (refine (nanN _ _).mono ?_; rintro e w' ⟨rfl, rfl⟩)
    go_ret
    simp [h, h0]
/-- The order of two values of a type. -/
def cmpV (t : Int) (a b : Val) : Int := if t = 3 then Lib.compareBytes a.2.data.toList b.2.data.toList else if t = 2 then cmpI (IntKind.u64.wrap a.1) (IntKind.u64.wrap b.1) else cmpI a.1 b.1
theorem compareV (t : Int) (a b : Val) (ha : ValOk t a) (hb : ValOk t b) (w : World) : Calls Tryz.prog 119 #[.int .i64 t, valV a, valV b] w fun e w' => e = .returned (.int .i64 (cmpV t a b)) ∧ Ext w w' := by
  have ht : t = 1 ∨ t = 2 ∨ t = 3 := by rcases ha.2 with ⟨h | h, _⟩ | ⟨h, _⟩ <;> simp [h]
  rcases ht with rfl | rfl | rfl
  all_goals
    go_enter Tryz.func119, Tryz.ntmps119
    go_wp2_with (fail)
    refine (fits _ a ha _).mono ?_; rintro e w1 ⟨rfl, hb1⟩
    have hc := hb1.cs
    have hz : w.heap.size + 2 ≤ w1.heap.size := by have := hb1.size; simpa using this
    have hz1 : w.heap.size < w1.heap.size := by omega
    have hz2 : w.heap.size + 1 < w1.heap.size := by omega
    go_wp2_with (fail)
    refine (fits _ b hb _).mono ?_; rintro e w2 ⟨rfl, hb2⟩
    have hc2 := hb2.cs
    have hE : Ext w w2 := ((((Ext.refl w).alloc _).alloc _).trans hb1).trans hb2
    go_wp2_with (first | (refine (cmpIC _ _ _).mono ?_; rintro e w' ⟨rfl, rfl⟩) | (refine (cmpUC _ _ _).mono ?_; rintro e w' ⟨rfl, rfl⟩) | (refine (Tryz.strings_Compare _ _ _).mono ?_; rintro e w' ⟨rfl, rfl⟩))
    go_ret
    exact ⟨by simp [cmpV], by first | assumption | exact hE⟩
/-- The sum of two values of a type. -/
def addV (t : Int) (a b : Val) : Val := if t = 3 then b else (wrap64 (a.1 + b.1), emp)
theorem addC (t : Int) (a b : Val) (ha : ValOk t a) (hb : ValOk t b) (w : World) : Calls Tryz.prog 339 #[.int .i64 t, valV a, valV b] w fun e w' => e = .returned (valV (addV t a b)) ∧ Ext w w' := by
  have ht : t = 1 ∨ t = 2 ∨ t = 3 := by rcases ha.2 with ⟨h | h, _⟩ | ⟨h, _⟩ <;> simp [h]
  rcases ht with rfl | rfl | rfl
  · go_enter Tryz.func339, Tryz.ntmps339
    go_wp2_with (fail)
    refine (fits _ a ha _).mono ?_; rintro e w1 ⟨rfl, hb1⟩
    have hc := hb1.cs
    have hz : w.heap.size + 3 ≤ w1.heap.size := by have := hb1.size; simpa using this
    have hz1 : w.heap.size < w1.heap.size := by omega
    have hz2 : w.heap.size + 1 < w1.heap.size := by omega
    have B1 := hb1.blk (blk_new _ _)
    simp only [World.size_alloc] at B1
    go_wp2_with (fail)
    refine (fits _ b hb _).mono ?_; rintro e w2 ⟨rfl, hb2⟩
    have hc2 := hb2.cs
    have B2 := hb2.blk B1
    have hE : Ext w w2 := (((((Ext.refl w).alloc _).alloc _).alloc _).trans hb1).trans hb2
    have d0 := blk_cell B2 0
    have d1 := blk_cell B2 1
    have f0 := blk_froz B2 0
    have f1 := blk_froz B2 1
    have B3 := blk_set (blk_set B2 0 (.int .i64 (wrap64 (a.1 + b.1)))) 1 (.string ⟨#[]⟩)
    have hE2 := (hE.setCell (a := ⟨w.heap.size + 1 + 1, 0, none⟩) (by simp; omega) (.int .i64 (wrap64 (a.1 + b.1)))).setCell (a := ⟨w.heap.size + 1 + 1, 1, none⟩) (by simp; omega) (.string ⟨#[]⟩)
    have e0 := blk_cell B3 0
    have e1 := blk_cell B3 1
    clear B1 B2 B3
    go_wp2_with (fail)
    (try simp only [Exit.inBlock, Exit.then])
    refine bodyPost_ret (v := valV (addV 1 a b)) (by simp [results, Tryz.results339, go_sem, e0, e1, addV]) rfl ?_
    exact ⟨rfl, hE2⟩
  · go_enter Tryz.func339, Tryz.ntmps339
    go_wp2_with (fail)
    refine (fits _ a ha _).mono ?_; rintro e w1 ⟨rfl, hb1⟩
    have hc := hb1.cs
    have hz : w.heap.size + 3 ≤ w1.heap.size := by have := hb1.size; simpa using this
    have hz1 : w.heap.size < w1.heap.size := by omega
    have hz2 : w.heap.size + 1 < w1.heap.size := by omega
    have B1 := hb1.blk (blk_new _ _)
    simp only [World.size_alloc] at B1
    go_wp2_with (fail)
    refine (fits _ b hb _).mono ?_; rintro e w2 ⟨rfl, hb2⟩
    have hc2 := hb2.cs
    have B2 := hb2.blk B1
    have hE : Ext w w2 := (((((Ext.refl w).alloc _).alloc _).alloc _).trans hb1).trans hb2
    have d0 := blk_cell B2 0
    have d1 := blk_cell B2 1
    have f0 := blk_froz B2 0
    have f1 := blk_froz B2 1
    have B3 := blk_set (blk_set B2 0 (.int .i64 (wrap64 (a.1 + b.1)))) 1 (.string ⟨#[]⟩)
    have hE2 := (hE.setCell (a := ⟨w.heap.size + 1 + 1, 0, none⟩) (by simp; omega) (.int .i64 (wrap64 (a.1 + b.1)))).setCell (a := ⟨w.heap.size + 1 + 1, 1, none⟩) (by simp; omega) (.string ⟨#[]⟩)
    have e0 := blk_cell B3 0
    have e1 := blk_cell B3 1
    clear B1 B2 B3
    go_wp2_with (fail)
    (try simp only [Exit.inBlock, Exit.then])
    refine bodyPost_ret (v := valV (addV 2 a b)) (by simp [results, Tryz.results339, go_sem, e0, e1, addV]) rfl ?_
    exact ⟨rfl, hE2⟩
  · go_enter Tryz.func339, Tryz.ntmps339
    go_wp2_with (fail)
    refine (fits _ a ha _).mono ?_; rintro e w1 ⟨rfl, hb1⟩
    have hc := hb1.cs
    have hz : w.heap.size + 3 ≤ w1.heap.size := by have := hb1.size; simpa using this
    have hz1 : w.heap.size < w1.heap.size := by omega
    have hz2 : w.heap.size + 1 < w1.heap.size := by omega
    have B1 := hb1.blk (blk_new _ _)
    simp only [World.size_alloc] at B1
    go_wp2_with (fail)
    refine (fits _ b hb _).mono ?_; rintro e w2 ⟨rfl, hb2⟩
    have hc2 := hb2.cs
    have B2 := hb2.blk B1
    have hE : Ext w w2 := (((((Ext.refl w).alloc _).alloc _).alloc _).trans hb1).trans hb2
    have d0 := blk_cell B2 0
    have d1 := blk_cell B2 1
    have f0 := blk_froz B2 0
    have f1 := blk_froz B2 1
    have B3 := blk_set (blk_set B2 0 (.int .i64 b.1)) 1 (.string b.2)
    have hE2 := (hE.setCell (a := ⟨w.heap.size + 1 + 1, 0, none⟩) (by simp; omega) (.int .i64 b.1)).setCell (a := ⟨w.heap.size + 1 + 1, 1, none⟩) (by simp; omega) (.string b.2)
    have e0 := blk_cell B3 0
    have e1 := blk_cell B3 1
    clear B1 B2 B3
    go_wp2_with (fail)
    (try simp only [Exit.inBlock, Exit.then])
    refine bodyPost_ret (v := valV (addV 3 a b)) (by simp [results, Tryz.results339, go_sem, e0, e1, addV]) rfl ?_
    exact ⟨rfl, hE2⟩
end K2
end Go.Proofs.YtbjeejimedhniaaGreatDoor
