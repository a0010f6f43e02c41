/- Contracts of the program's functions, as the walks of the law use them. -/
import Derived.Test.YtbjeejimedhniaaGreatDoorC0
import Derived.RangeFuncStops
import Derived.RangeFuncNested
import Derived.RangeFuncBound
import Derived.RangeFuncCalls
import Derived.RangeFuncLeaves
import Derived.Shelf.Abstract
import Derived.Shelf.RegionOpen
import Derived.WalkKit
import Derived.OwnWalkIn
import Derived.TacticsInMore
import Derived.LoopNIn
import Derived.LoopIn
import Derived.Shelf.Strings.BuilderK
import Derived.Test.YtbjeejimedhniaaGreatDoorProg
namespace Go.Proofs.YtbjeejimedhniaaGreatDoor
namespace KB2
open Go Go.RowKit
open KB
set_option linter.unusedVariables false
set_option linter.unusedSimpArgs false
variable {α β : Type}
/-- 'l[i:j:j]'. -/
theorem cut3 {R : Rd α} {F : Nat → Prop} {w : World} {A : Option Addr} {c : Nat} {l : List α} (h : R.Sl F w A c l) {P : Program} {t e : TypeId} {bytes : Nat} (hE : El P t e R.sz bytes) (i j m n cn : Nat) (I J M : Int) (hij : i ≤ j) (hj : j ≤ l.length) (hm : j ≤ m) (hmc : m ≤ c) (hI : I = i) (hJ : J = j) (hM : M = m) (hn : j - i = n) (hcn : m - i = cn) :
    ∃ A', (∀ (kl kh km : IntKind) (W : World), (Instr.slice t (.slice A l.length c) (some (.int kl I)) (some (.int kh J)) (some (.int km M))).run P W = .ok (.slice A' n cn) W) ∧ R.Sl F w A' cn ((l.take j).drop i) := by
  subst hI hJ hM hn hcn
  have hc := h.le
  refine ⟨_, fun kl kh km W => ?_, h.sub (i := i) (j := j) (m := m) hij hj hm hmc⟩
  obtain ⟨hu, i', z, hi, hz, hsz, hb, hzs, hp⟩ := hE
  have hel : P.elem t = e := by unfold Program.elem; rw [hu]
  rw [run_slice_lhm W t A l.length c (by rw [hel]; exact hu) kl kh km i j m (by omega) (by omega) (by omega) (by omega)]
  simp [hel, sizeOf, typeInfo, hi, hsz, sliced]
/-- append(out, x), x a slice. -/
theorem sl_C {R : Rd α} {hsz : 0 < R.sz} {F : Nat → Prop} {w : World} {A : Option Addr} {c : Nat} {l : List α} (h : R.Sl F w A c l) : (rdSl R hsz).C F w [.slice A l.length c] l := ⟨A, c, rfl, h⟩
theorem sl_Cn {R : Rd α} {hsz : 0 < R.sz} {F : Nat → Prop} {w : World} {A : Option Addr} {n c : Nat} {l : List α} (h : R.Sl F w A c l) (hn : n = l.length) : (rdSl R hsz).C F w [.slice A n c] l := by subst hn; exact ⟨A, c, rfl, h⟩
/-- What came in lies away from what is under way. -/
theorem Far {R : Rd α} (hsz : 0 < R.sz) {F : Nat → Prop} {w wr : World} {A : Option Addr} {c : Nat} {l : List α} {v : Value} (h : R.Sl F w A c l) (hE : Ext w wr) (hv : ∀ g, v.ownBlock = some g → w.heap.size ≤ g ∧ g < wr.heap.size) : R.Sl (Fv F v) wr A c l :=
  Rd.Sl.ext (h.narrow hsz (fun k hk hG => hG.elim id (fun hg => absurd (hv k hg).1 (by omega)))) hE
/-- What is old lies away from what is new. -/
theorem far0 (R : Rd α) (hsz : 0 < R.sz) {F : Nat → Prop} {w : World} {A : Option Addr} {c : Nat} {l : List α} {v : Value} (h : R.Sl F w A c l) {p : Nat → Prop} (hv : ∀ g, v.ownBlock = some g → w.heap.size ≤ g ∧ p g) : R.Sl (Fv F v) w A c l :=
  h.narrow hsz (fun k hk hG => hG.elim id (fun hg => absurd (hv k hg).1 (by omega)))
theorem FvF {R : Rd α} {F : Nat → Prop} {B : Nat} {e : TypeId} {w : World} {v : Value} {l : List α} (h : R.Own F B e w v l) (hF : ∀ k, F k → k < w.heap.size) : ∀ k, Fv F v k → k < w.heap.size := fun k hk => hk.elim (hF k) (fun hg => (h.ge k hg).2)
theorem FExt {F : Nat → Prop} {w w' : World} (hF : ∀ k, F k → k < w.heap.size) (h : Ext w w') : ∀ k, F k → k < w'.heap.size := fun k hk => Nat.lt_of_lt_of_le (hF k hk) h.size
/-- append(out, x) as a step of a region, and where the new row lies. -/
theorem step_pushAt {P : Program} {ops : Array Oper} {o : Oper} {a : Act} {Q : Exit → Act → World → Prop} {w : World} {K : Act → World → Prop} {E : Prop} (hgd : o.guard = none) (s x : Operand) (t : TypeId) (ho : o.op = .call { callee := .builtin .append, args := #[s, x], argTypes := #[t, t] })
    (R : Rd α) {F : Nat → Prop} {B : Nat} {e : TypeId} {bytes : Nat} (hE : El P t e R.sz bytes) {v : Value} {l : List α} (hs : a.eval s = v) (hown : R.Own F B e w v l)
    {g : Nat} {c : Nat} (hx : a.eval x = .slice (some ⟨g, 0, none⟩) 1 c) {cs : Array Value} {te : TypeId} {fr : Nat × Nat} (hc : w.heap[g]? = some (.cells cs te fr)) {y : α} (hy : R.C (Fv F v) w cs.toList y)
    (hlen : (l.length + 1) * bytes ≤ 140737488355328) (hl2 : l.length + 1 ≤ maxLen) (hB : B ≤ w.heap.size)
    (h : ∀ v' w', R.Own F B e w' v' (l ++ [y]) → w.grownBy w' v.ownBlock → (v'.ownBlock = v.ownBlock ∨ v'.ownBlock = some w.heap.size) → K (a.put o.dst v') w') : if Region.wanted o (yielded ops a.tmps) = true then Oper.wp P o a w K Q else E := by
  have hwt : Region.wanted o (yielded ops a.tmps) = true := by simp [Region.wanted, hgd]
  rw [if_pos hwt]
  have hl := R.len hy
  obtain ⟨hu, i, z, hi, hz, hsz, hb, hzs, hp⟩ := hE
  obtain ⟨xs, hro, hC⟩ := hown
  obtain ⟨v', w', hr, h2, h3, _, h5⟩ := run_append_own_at (P := P) w B t o.type e i z R.sz bytes hu hi hz hsz hb hzs hp v l.length xs hro ⟨g, 0, none⟩ 1 c cs.toList (by omega) (fun j u hj => by rw [Addr.add_lit, Nat.zero_add, cell_of_row w g j cs te fr hc]; simpa using hj) (R.one hy) hl2 hlen hB
  unfold Oper.wp execOp
  simp only [ho, resolve, invoke, builtin, Sem.run_bind, Sem.run_pure, Result.andThen_ok, List.map_toArray, List.map_cons, List.map_nil, hs, hx, hr]
  refine h v' w' (Rd.Own.more (m := [y]) hC hro.1 (fun k y' hk => ?_) (by simp [hl]) h2 h3 h5) h3 h5
  match k, hk with
  | 0, hk => simp at hk; subst hk; rw [Nat.zero_mul, List.drop_zero, List.take_of_length_le (Nat.le_of_eq hl)]; exact hy
section
variable {P : Program} {ops : Array Oper} {rest : List Oper} {o : Oper} {a : Act} {Q : Exit → Act → World → Prop} {w : World}
/-- Where the new row lies: in the old one's block, or in a new one. -/
def At' (w : World) (v v' : Value) : Prop := v'.ownBlock = v.ownBlock ∨ v'.ownBlock = some w.heap.size
theorem wpList_moreAt (hgd : o.guard = none) (s x : Operand) (t : TypeId) (ho : o.op = .call { callee := .builtin .append, args := #[s, x], argTypes := #[t, t] })
    (R : Rd α) {F : Nat → Prop} {B : Nat} {e : TypeId} {bytes : Nat} (hE : El P t e R.sz bytes) {v : Value} {l m : List α} (hs : a.eval s = v) (hown : R.Own F B e w v l)
    {ad : Addr} {c : Nat} (hx : a.eval x = .slice (some ad) m.length c) {news : List Value} (hn : news.length = m.length * R.sz) (hc : ∀ j u, news[j]? = some u → w.cell? (ad.add j) = some u)
    (hm : ∀ k y, m[k]? = some y → R.C (Fv F v) w ((news.drop (k * R.sz)).take R.sz) y) (h1 : ∀ u ∈ news, u.oneCell' = true)
    (hlen : l.length + m.length ≤ maxLen) (hby : (l.length + m.length) * bytes ≤ 140737488355328) (hB : B ≤ w.heap.size)
    (h : ∀ v' w', R.Own F B e w' v' (l ++ m) → w.grownBy w' v.ownBlock → At' w v v' → wpList P ops Q rest (a.put o.dst v') w') : wpList P ops Q (o :: rest) a w := by
  obtain ⟨hu, i, z, hi, hz, hsz, hb, hzs, hp⟩ := hE
  obtain ⟨xs, hro, hC⟩ := hown
  obtain ⟨v', w', hr, h2, h3, _, h5⟩ := run_append_own_at (P := P) w B t o.type e i z R.sz bytes hu hi hz hsz hb hzs hp v l.length xs hro ad m.length c news hn hc h1 hlen hby hB
  refine wpList_plain hgd fun K hK => ?_
  unfold Oper.wp execOp
  simp only [ho, resolve, invoke, builtin, Sem.run_bind, Sem.run_pure, Result.andThen_ok, List.map_toArray, List.map_cons, List.map_nil, hs, hx, hr]
  exact hK _ _ (h v' w' (Rd.Own.more hC hro.1 hm hn h2 h3 h5) h3 h5)
theorem wpList_pushAt (hgd : o.guard = none) (s x : Operand) (t : TypeId) (ho : o.op = .call { callee := .builtin .append, args := #[s, x], argTypes := #[t, t] })
    (R : Rd α) {F : Nat → Prop} {B : Nat} {e : TypeId} {bytes : Nat} (hE : El P t e R.sz bytes) {v : Value} {l : List α} (hs : a.eval s = v) (hown : R.Own F B e w v l)
    {g : Nat} {c : Nat} (hx : a.eval x = .slice (some ⟨g, 0, none⟩) 1 c) {cs : Array Value} {te : TypeId} {fr : Nat × Nat} (hc : w.heap[g]? = some (.cells cs te fr)) {y : α} (hy : R.C (Fv F v) w cs.toList y)
    (hlen : (l.length + 1) * bytes ≤ 140737488355328) (hl2 : l.length + 1 ≤ maxLen) (hB : B ≤ w.heap.size)
    (h : ∀ v' w', R.Own F B e w' v' (l ++ [y]) → w.grownBy w' v.ownBlock → At' w v v' → wpList P ops Q rest (a.put o.dst v') w') : wpList P ops Q (o :: rest) a w := by
  have hl := R.len hy
  refine wpList_moreAt hgd s x t ho R hE (m := [y]) hs hown hx (news := cs.toList) (by simp [hl]) (fun j u hj => ?_) (fun k y' hk => ?_) (R.one hy) hl2 hlen hB h
  · rw [Addr.add_lit, Nat.zero_add, cell_of_row w g j cs te fr hc]
    simpa using hj
  · match k, hk with
    | 0, hk => simp at hk; subst hk; rw [Nat.zero_mul, List.drop_zero, List.take_of_length_le (Nat.le_of_eq hl)]; exact hy
theorem wpList_appAt (hgd : o.guard = none) (s x : Operand) (t : TypeId) (ho : o.op = .call { callee := .builtin .append, args := #[s, x], argTypes := #[t, t] })
    (R : Rd α) {F : Nat → Prop} {B : Nat} {e : TypeId} {bytes : Nat} (hE : El P t e R.sz bytes) {v : Value} {l m : List α} (hs : a.eval s = v) (hown : R.Own F B e w v l)
    {A : Option Addr} {c n : Nat} (hx : a.eval x = .slice A n c) (hnn : n = m.length) (hm : R.Sl (Fv F v) w A c m)
    (hlen : (l.length + m.length) * bytes ≤ 140737488355328) (hl2 : l.length + m.length ≤ maxLen) (hB : B ≤ w.heap.size)
    (h : ∀ v' w', R.Own F B e w' v' (l ++ m) → w.grownBy w' v.ownBlock → At' w v v' → wpList P ops Q rest (a.put o.dst v') w') : wpList P ops Q (o :: rest) a w := by
  subst hnn
  rcases Nat.eq_zero_or_pos m.length with h0 | h0
  · obtain rfl : m = [] := List.eq_nil_of_length_eq_zero h0
    rcases A with _ | ad
    · obtain rfl : c = 0 := hm.nil_ rfl
      obtain ⟨hu, i, z, hi, hz, hsz, hb, hzs, hp⟩ := hE
      obtain ⟨xs, hro, hC⟩ := hown
      have hrun := run_append_owned_none (P := P) (w := w) B t o.type e i R.sz hu hi v l.length xs hro
      refine wpList_plain hgd fun K hK => ?_
      unfold Oper.wp
      simp [execOp, ho, resolve, invoke, builtin, hs, hx, hrun, Result.andThen]
      exact hK _ _ (h v w (by rw [List.append_nil]; exact ⟨xs, hro, hC⟩) (World.grownBy.refl _ _) (.inl rfl))
    · exact wpList_moreAt hgd s x t ho R hE (m := []) hs hown hx (news := []) (by simp) (by simp) (by simp) (by simp) hl2 hlen hB h
  · obtain ⟨b, o', rfl, _⟩ := hm.get h0
    obtain ⟨cs, h1, h2, h3, h4⟩ := hm.cells
    exact wpList_moreAt hgd s x t ho R hE hs hown hx h1 (fun j u hj => by rw [Addr.add_lit]; exact h2 j u hj) (fun k y hk => (h3 k y hk).2) h4 hl2 hlen hB h
end
/-- Two rows under way lie apart. -/
def Apart (v u : Value) : Prop := ∀ k, v.ownBlock = some k → u.ownBlock ≠ some k
theorem Apart.symm {v u : Value} (h : Apart v u) : Apart u v := fun k h1 h2 => h k h2 h1
/-- One of two grows: they lie apart still. -/
theorem Apart.grow {v u v' : Value} {w : World} (h : Apart v u) (hat : At' w v v') (hu : ∀ k, u.ownBlock = some k → k < w.heap.size) : Apart v' u := fun k hk hc => by
  rcases hat with e | e
  · exact h k (by rw [← e]; exact hk) hc
  · rw [e] at hk; cases hk
    exact absurd (hu _ hc) (by omega)
end KB2
namespace KB
open Go Go.RowKit
set_option linter.unusedVariables false
set_option linter.unusedSimpArgs false
variable {α β : Type}
/-- Data that holds no address. -/
def Rd.Free (R : Rd α) : Prop := ∀ F G w w' cs x, R.C F w cs x → R.C G w' cs x
theorem Rd.Own.free {R : Rd α} (hR : R.Free) {F G : Nat → Prop} {B : Nat} {e : TypeId} {w w' : World} {v : Value} {l : List α} (h : R.Own F B e w v l) (hk : ∀ g, v.ownBlock = some g → w'.heap[g]? = w.heap[g]?) : R.Own G B e w' v l := by
  obtain ⟨xs, ho, hC⟩ := h
  refine ⟨xs, ⟨ho.1, ?_⟩, fun j x hj => hR _ _ _ _ _ _ (hC j x hj)⟩
  rcases ho.2 with h1 | ⟨g, cap, cur, rfl, hb, hg, rest⟩
  · exact .inl h1
  · exact .inr ⟨g, cap, cur, rfl, hb, (hk g rfl).trans hg, rest⟩
theorem Rd.Own.one {R : Rd α} {F : Nat → Prop} {B : Nat} {e : TypeId} {w : World} {v : Value} {l : List α} (h : R.Own F B e w v l) : v.oneCell' = true := by
  obtain ⟨xs, ho, hC⟩ := h
  rcases ho.2 with ⟨rfl, _⟩ | ⟨g, cap, cur, rfl, _⟩ <;> rfl
/-- Slices laid in a block of their own. -/
theorem lit2 {R : Rd α} {hsz : 0 < R.sz} {F : Nat → Prop} {w : World} {g : Nat} {T : TypeId} {fr : Nat × Nat} {A1 A2 : Option Addr} {c1 c2 n1 n2 : Nat} {l1 l2 : List α}
    (h : w.heap[g]? = some (.cells #[.slice A1 n1 c1, .slice A2 n2 c2] T fr)) (hF : ¬ F g) (h1 : R.Sl F w A1 c1 l1) (e1 : n1 = l1.length) (h2 : R.Sl F w A2 c2 l2) (e2 : n2 = l2.length) : (rdSl R hsz).Sl F w (some ⟨g, 0, none⟩) 2 [l1, l2] := by
  subst e1 e2
  refine lit_one rfl h hF rfl (by simp [maxLen]) (fun k x hk => ?_)
  match k, hk with
  | 0, hk => cases hk; exact ⟨_, rfl, _, _, rfl, h1⟩
  | 1, hk => cases hk; exact ⟨_, rfl, _, _, rfl, h2⟩
  | k + 2, hk => simp at hk
theorem lit4 {R : Rd α} {hsz : 0 < R.sz} {F : Nat → Prop} {w : World} {g : Nat} {T : TypeId} {fr : Nat × Nat} {A1 A2 A3 A4 : Option Addr} {c1 c2 c3 c4 n1 n2 n3 n4 : Nat} {l1 l2 l3 l4 : List α}
    (h : w.heap[g]? = some (.cells #[.slice A1 n1 c1, .slice A2 n2 c2, .slice A3 n3 c3, .slice A4 n4 c4] T fr)) (hF : ¬ F g) (h1 : R.Sl F w A1 c1 l1) (e1 : n1 = l1.length) (h2 : R.Sl F w A2 c2 l2) (e2 : n2 = l2.length) (h3 : R.Sl F w A3 c3 l3) (e3 : n3 = l3.length) (h4 : R.Sl F w A4 c4 l4) (e4 : n4 = l4.length) : (rdSl R hsz).Sl F w (some ⟨g, 0, none⟩) 4 [l1, l2, l3, l4] := by
  subst e1 e2 e3 e4
  refine lit_one rfl h hF rfl (by simp [maxLen]) (fun k x hk => ?_)
  match k, hk with
  | 0, hk => cases hk; exact ⟨_, rfl, _, _, rfl, h1⟩
  | 1, hk => cases hk; exact ⟨_, rfl, _, _, rfl, h2⟩
  | 2, hk => cases hk; exact ⟨_, rfl, _, _, rfl, h3⟩
  | 3, hk => cases hk; exact ⟨_, rfl, _, _, rfl, h4⟩
  | k + 4, hk => simp at hk
theorem intFree (k : IntKind) : (rdInt k).Free := fun _ _ _ _ _ _ h => h
theorem valFree : rdVal.Free := fun _ _ _ _ _ _ h => h
/-- A value of one cell, whatever it is. -/
def rdRaw : Rd Value where
  sz := 1
  C := fun _ _ cs v => cs = [v] ∧ v.oneCell' = true
  len := by rintro _ _ _ _ ⟨rfl, _⟩; rfl
  keep := fun _ h => h
  narrow := fun _ h => h
  one := by rintro _ _ _ _ ⟨rfl, h⟩ u hu; simp at hu; subst hu; exact h
theorem rawFree : rdRaw.Free := fun _ _ _ _ _ _ h => h
/-- Rows of numbers under way in an array of their own: each in a block of its own. -/
structure Grid (B : Nat) (t e : TypeId) (w : World) (g : Nat) (vs : List Value) (Ls : List Row) : Prop where
  hb : B ≤ g
  arr : rdRaw.Own (fun _ => False) B t w (.slice (some ⟨g, 0, none⟩) vs.length vs.length) vs
  len : Ls.length = vs.length
  own : ∀ (r : Nat) v, vs[r]? = some v → rdVal.Own (fun _ => False) B e w v (Ls.getD r [])
  ne : ∀ (r : Nat) v, vs[r]? = some v → v.ownBlock ≠ some g
  dif : ∀ (r q : Nat) v u k, r ≠ q → vs[r]? = some v → vs[q]? = some u → v.ownBlock = some k → u.ownBlock ≠ some k
theorem Grid.ext {B : Nat} {t e : TypeId} {w w' : World} {g : Nat} {vs : List Value} {Ls : List Row} (h : Grid B t e w g vs Ls) (k : Ext w w') : Grid B t e w' g vs Ls :=
  ⟨h.hb, h.arr.ext k, h.len, fun r v hv => (h.own r v hv).ext k, h.ne, h.dif⟩
theorem Grid.set {B : Nat} {t e : TypeId} {w w' : World} {g : Nat} {vs : List Value} {Ls : List Row} (h : Grid B t e w g vs Ls) {i : Nat} {v v' : Value} {L : Row} (hv : vs[i]? = some v) (hg : w.grownBy w' v.ownBlock) (hat : v'.ownBlock = v.ownBlock ∨ v'.ownBlock = some w.heap.size)
    {F : Nat → Prop} (ho : rdVal.Own F B e w' v' L) (h1 : v'.oneCell' = true) : Grid B t e (w'.setCell ⟨g, i, none⟩ v') g (vs.set i v') (Ls.set i L) := by
  have hi := (List.getElem?_eq_some_iff.1 hv).1
  have hgs : g < w.heap.size := (h.arr.ge g rfl).2
  have hne := h.ne i v hv
  have hne' : v'.ownBlock ≠ some g := by
    rcases hat with e | e
    · rw [e]; exact hne
    · rw [e]; intro e; simp at e; omega
  have hblk : ∀ k, k < w.heap.size → v.ownBlock ≠ some k → k ≠ g → (w'.setCell ⟨g, i, none⟩ v').heap[k]? = w.heap[k]? := fun k hk hn hkg => (Below.heap_setCell _ _ _ _ hkg).trans (hg.block k hk (fun e => hn e.symm))
  have a1 : rdRaw.Own (fun _ => False) B t w' (.slice (some ⟨g, 0, none⟩) vs.length vs.length) vs := h.arr.free rawFree (fun k hk => by cases hk; exact hg.block g hgs (fun e => hne e.symm))
  refine ⟨h.hb, ?_, by rw [List.length_set, List.length_set]; exact h.len, fun r u hu => ?_, fun r u hu => ?_, fun r q u x k hrq hu hx hk => ?_⟩
  · rw [List.length_set]
    exact Rd.Own.set1 rfl a1 hi ⟨rfl, h1⟩
  · by_cases hri : i = r
    · subst hri
      rw [List.getElem?_set_self hi] at hu
      cases hu
      rw [List.getD_eq_getElem?_getD, List.getElem?_set_self (by rw [h.len]; exact hi)]
      exact ho.free valFree (fun k hk => Below.heap_setCell _ _ _ _ (fun e => hne' (by rw [hk, e])))
    · rw [List.getElem?_set_ne hri] at hu
      rw [List.getD_eq_getElem?_getD, List.getElem?_set_ne hri, ← List.getD_eq_getElem?_getD]
      have hr := h.own r u hu
      exact hr.free valFree (fun k hk => hblk k (hr.ge k hk).2 (fun e => h.dif i r v u k hri hv hu e hk) (fun e => h.ne r u hu (by rw [hk, e])))
  · by_cases hri : i = r
    · subst hri
      rw [List.getElem?_set_self hi] at hu
      cases hu; exact hne'
    · rw [List.getElem?_set_ne hri] at hu
      exact h.ne r u hu
  · by_cases hri : i = r
    · subst hri
      rw [List.getElem?_set_self hi] at hu
      rw [List.getElem?_set_ne hrq] at hx
      cases hu
      rcases hat with e | e
      · exact h.dif i q v x k hrq hv hx (by rw [← e]; exact hk)
      · rw [e] at hk; cases hk
        exact fun hc => absurd ((h.own q x hx).ge _ hc).2 (by omega)
    · rw [List.getElem?_set_ne hri] at hu
      by_cases hqi : i = q
      · subst hqi
        rw [List.getElem?_set_self hi] at hx
        cases hx
        rcases hat with e | e
        · rw [e]; exact h.dif r i u v k hrq hu hv hk
        · rw [e]; intro hc; cases hc
          exact absurd ((h.own r u hu).ge _ hk).2 (by omega)
      · rw [List.getElem?_set_ne hqi] at hx
        exact h.dif r q u x k hrq hu hx hk
/-- What is under way reads as rows. -/
theorem Grid.shut {B : Nat} {t e : TypeId} {w : World} {g : Nat} {vs : List Value} {Ls : List Row} (h : Grid B t e w g vs Ls) {F : Nat → Prop} (hF : ∀ k, F k → k < B) (hm : vs.length ≤ maxLen) {n : Nat} (hn : n = vs.length) : rdRow.Sl F w (some ⟨g, 0, none⟩) n Ls := by
  subst hn
  refine ⟨by rw [h.len]; exact Nat.le_refl _, hm, (fun h => by cases h), fun k L hk => ?_⟩
  have hkl := (List.getElem?_eq_some_iff.1 hk).1
  have hkv : k < vs.length := by rw [← h.len]; exact hkl
  obtain ⟨u, hu, _, hC, _⟩ := Rd.Own.get1 rfl h.arr hkv
  simp only [List.cons.injEq, and_true] at hC
  subst hC
  have ho := h.own k _ (List.getElem?_eq_getElem hkv)
  rw [List.getD_eq_getElem?_getD, hk] at ho
  obtain ⟨A, c, hv, hs⟩ := (ho.free (G := F) valFree (fun _ _ => rfl)).shut hF
  refine ⟨g, 0, rfl, fun hf => by have := hF g hf; have := h.hb; omega, [vs[k]], ⟨A, c, by rw [hv]; rfl, hs⟩, fun j x hj => ?_⟩
  match j, hj with
  | 0, hj =>
    simp only [List.getElem?_cons_zero, Option.some.injEq] at hj
    subst hj
    rw [show k * rdRow.sz = k from Nat.mul_one k, Nat.zero_add, Nat.add_zero]
    exact hu
end KB
namespace KB
open Go Go.RowKit KB2
/-- The other one stays. -/
theorem Rd.Own.other {α : Type} {R : Rd α} (hR : R.Free) {F : Nat → Prop} {B : Nat} {e : TypeId} {w w' : World} {u v : Value} {l : List α} (h : R.Own F B e w u l) (hg : w.grownBy w' v.ownBlock) (ha : Apart v u) : R.Own F B e w' u l :=
  h.free hR (fun k hk => hg.block k (h.ge k hk).2 (fun e => ha k e.symm hk))
end KB
namespace KB3
open Go Go.RowKit
open KB KB2
set_option linter.unusedVariables false
set_option linter.unusedSimpArgs false
variable {α : Type}
/-- append(out, l...) as a step of a region, and where the new row lies. -/
theorem step_appAt {P : Program} {ops : Array Oper} {o : Oper} {a : Act} {Q : Exit → Act → World → Prop} {w : World} {K : Act → World → Prop} {E : Prop} (hgd : o.guard = none) (s x : Operand) (t : TypeId) (ho : o.op = .call { callee := .builtin .append, args := #[s, x], argTypes := #[t, t] })
    (R : Rd α) {F : Nat → Prop} {B : Nat} {e : TypeId} {bytes : Nat} (hE : El P t e R.sz bytes) {v : Value} {l m : List α} (hs : a.eval s = v) (hown : R.Own F B e w v l)
    {A : Option Addr} {c n : Nat} (hx : a.eval x = .slice A n c) (hnn : n = m.length) (h0 : 0 < m.length) (hm : R.Sl (Fv F v) w A c m)
    (hby : (l.length + m.length) * bytes ≤ 140737488355328) (hlen : l.length + m.length ≤ maxLen) (hB : B ≤ w.heap.size)
    (h : ∀ v' w', R.Own F B e w' v' (l ++ m) → w.grownBy w' v.ownBlock → At' w v v' → K (a.put o.dst v') w') : if Region.wanted o (yielded ops a.tmps) = true then Oper.wp P o a w K Q else E := by
  subst hnn
  have hwt : Region.wanted o (yielded ops a.tmps) = true := by simp [Region.wanted, hgd]
  rw [if_pos hwt]
  obtain ⟨b, o', rfl, _⟩ := hm.get h0
  obtain ⟨cs, h1, h2, h3, h4⟩ := hm.cells
  obtain ⟨hu, i, z, hi, hz, hsz, hb, hzs, hp⟩ := hE
  obtain ⟨xs, hro, hC⟩ := hown
  obtain ⟨v', w', hr, q2, q3, _, q5⟩ := run_append_own_at (P := P) w B t o.type e i z R.sz bytes hu hi hz hsz hb hzs hp v l.length xs hro ⟨b, o', none⟩ m.length c cs h1 (fun j u hj => by rw [Addr.add_lit]; exact h2 j u hj) h4 hlen hby hB
  unfold Oper.wp execOp
  simp only [ho, resolve, invoke, builtin, Sem.run_bind, Sem.run_pure, Result.andThen_ok, List.map_toArray, List.map_cons, List.map_nil, hs, hx, hr]
  exact h v' w' (Rd.Own.more hC hro.1 (fun k y hk => (h3 k y hk).2) h1 q2 q3 q5) q3 q5
end KB3
namespace K89
open Go Go.RowKit KB
set_option linter.unusedVariables false
set_option linter.unusedSimpArgs false
set_option maxHeartbeats 1000000
set_option maxRecDepth 100000
/-- Bytes as a text. -/
abbrev BA (l : List UInt8) : ByteArray := ⟨l.toArray⟩
def hd (t : List UInt8) : List UInt8 := t.takeWhile (fun b => !(b == 32))
def tl (t : List UInt8) : List UInt8 := (t.dropWhile (fun b => !(b == 32))).drop 1
def trim (t : List UInt8) : List UInt8 := t.dropWhile (fun b => b == 32)
/-- The words of bytes whose first one is no blank. -/
def wdsT : Nat → List UInt8 → List (List UInt8)
  | 0, _ => []
  | f + 1, t => if t = [] then [] else hd t :: wdsT f (trim (tl t))
def wds (l : List UInt8) : List (List UInt8) := wdsT l.length (trim l)
theorem indexByte_split (c : UInt8) : ∀ t : List UInt8, (Lib.indexByte t c = -1 ∧ t.takeWhile (fun b => !(b == c)) = t ∧ t.dropWhile (fun b => !(b == c)) = []) ∨
    (∃ i : Nat, Lib.indexByte t c = i ∧ i < t.length ∧ t.takeWhile (fun b => !(b == c)) = t.take i ∧ (t.dropWhile (fun b => !(b == c))).drop 1 = t.drop (i + 1))
  | [] => .inl ⟨rfl, rfl, rfl⟩
  | a :: t => by
    by_cases h : (a == c) = true
    · refine .inr ⟨0, by simp [Lib.indexByte, h], by simp, by simp [h], by simp [h]⟩
    · have h' : (a == c) = false := by simpa using h
      rcases indexByte_split c t with ⟨h1, h2, h3⟩ | ⟨i, h1, h2, h3, h4⟩
      · exact .inl ⟨by simp [Lib.indexByte, h', h1], by simp [h', h2], by simp [h', h3]⟩
      · have : ¬ ((i : Int) = -1) := by omega
        refine .inr ⟨i + 1, by simp [Lib.indexByte, h', h1, this], by simp; omega, by simp [h', h3], by simp [h', h4]⟩
theorem trim_len (t : List UInt8) : (trim t).length ≤ t.length := (List.dropWhile_sublist _).length_le
theorem tl_len (t : List UInt8) (h : t ≠ []) : (tl t).length < t.length := by
  unfold tl
  have h1 := (List.dropWhile_sublist (fun b : UInt8 => !(b == 32)) (l := t)).length_le
  have h2 : t.length ≠ 0 := fun q => h (List.eq_nil_of_length_eq_zero q)
  rw [List.length_drop]
  omega
theorem ba_data (s : ByteArray) : BA s.data.toList = s := by simp [BA]
theorem ext_pre (s : ByteArray) (i : Nat) : s.extract 0 i = BA (s.data.toList.take i) := by
  apply ByteArray.ext; apply Array.toList_inj.1; simp
theorem ext_suf (s : ByteArray) (i : Nat) : s.extract i s.size = BA (s.data.toList.drop i) := by
  apply ByteArray.ext; apply Array.toList_inj.1
  have h : s.data.toList.length = s.size := rfl
  simp only [ByteArray.data_extract, Array.toList_extract, List.extract, List.toList_toArray]
  exact List.take_of_length_le (by rw [List.length_drop, h]; exact Nat.le_refl _)
theorem cutC0 (s : ByteArray) (hs : s.size ≤ 1000000000) (w : World) : Calls Tryz.prog 185 #[.string s, .string ⟨#[32]⟩] w fun e w' => ∃ f, e = .returned (.tuple #[.string (BA (hd s.data.toList)), .string (BA (tl s.data.toList)), .bool f]) ∧ Ext w w' := by
  have HI := As.mk (Tryz.stringslite_Index_one s 32)
  rcases indexByte_split 32 s.data.toList with ⟨h1, h2, h3⟩ | ⟨i, h1, h2, h3, h4⟩
  · rw [h1] at HI
    go_enter Tryz.func185, Tryz.ntmps185
    go_wp2_with (fail)
    refine (HI.out _).mono ?_; rintro e w1 ⟨rfl, rfl⟩
    go_wp2_with (fail)
    refine bodyPost_ret (v := .tuple #[.string s, .string ⟨#[]⟩, .bool false]) (by simp [results, Tryz.results185, go_sem]) rfl ?_
    have e1 : hd s.data.toList = s.data.toList := h2
    have e2 : tl s.data.toList = [] := by unfold tl; rw [h3]; rfl
    exact ⟨false, by rw [e1, e2, ba_data], Ext.refl _⟩
  · rw [h1] at HI
    have hi : i < s.size := by simpa using h2
    go_enter Tryz.func185, Tryz.ntmps185
    go_wp2_with (fail)
    refine (HI.out _).mono ?_; rintro e w1 ⟨rfl, rfl⟩
    go_wp2_with (fail)
    go_region
    (try simp only [Exit.inBlock, Exit.then])
    go_wp2_with (fail)
    refine bodyPost_ret (v := .tuple #[.string (s.extract 0 i), .string (s.extract (i + 1) s.size), .bool true]) (by simp [results, Tryz.results185, go_sem]) rfl ?_
    have e1 : hd s.data.toList = s.data.toList.take i := h3
    have e2 : tl s.data.toList = s.data.toList.drop (i + 1) := h4
    exact ⟨true, by rw [e1, e2, ext_pre, ext_suf], (Ext.refl _).drew⟩
theorem cutC (s : ByteArray) (hs : s.size ≤ 1000000000) (w : World) : Calls Tryz.prog 104 #[.string s, .string ⟨#[32]⟩] w fun e w' => ∃ f, e = .returned (.tuple #[.string (BA (hd s.data.toList)), .string (BA (tl s.data.toList)), .bool f]) ∧ Ext w w' := by
  have HI := As.mk (cutC0 s hs w)
  go_enter Tryz.func104, Tryz.ntmps104
  go_wp2_with (fail)
  refine HI.out.mono ?_; rintro e w1 ⟨f, rfl, hE⟩
  go_wp2_with (fail)
  refine bodyPost_ret (v := .tuple #[.string (BA (hd s.data.toList)), .string (BA (tl s.data.toList)), .bool f]) (by simp [results, Tryz.results104, go_sem]) rfl ?_
  exact ⟨f, rfl, hE⟩
theorem elStr : El Tryz.prog 126 9 rdStr.sz 16 := El.mk (z := .string ⟨#[]⟩) Tryz.underlying126 (by kernel_rfl) rfl (by decide)
/-- No word is a text between marks. -/
def NoMark (L : List (List UInt8)) : Prop := ∀ x ∈ L, x.head? ≠ some 34
theorem hd_head (t : List UInt8) (h : t ≠ []) (hb : t.head? ≠ some 32) : (hd t).head? = t.head? := by
  cases t with
  | nil => exact absurd rfl h
  | cons a t =>
    have : (a == 32) = false := by simpa using hb
    simp [hd, this]
theorem trim_head (t : List UInt8) : (trim t).head? ≠ some 32 := by
  induction t with
  | nil => simp [trim]
  | cons a t ih =>
    unfold trim at ih ⊢
    rw [List.dropWhile_cons]
    split
    · exact ih
    · rename_i h
      simpa using h
theorem wordsC (F : Nat → Prop) (line : ByteArray) (hs : line.size ≤ 1000000000) (w : World) (hq : NoMark (wds line.data.toList)) (hwl : (wds line.data.toList).length ≤ 100000) :
    Calls Tryz.prog 45 #[.string line] w fun e w' => ∃ v, e = .returned v ∧ rdStr.Own F w.heap.size 9 w' v ((wds line.data.toList).map BA) ∧ Ext w w' := by
  have HT := As.mk (fun s W => Tryz.strings_TrimLeft_one s 32 (by decide) W)
  have HC := As.mk (fun s W => Tryz.strings_CutPrefix s ⟨#[34]⟩ W)
  obtain ⟨L, hL⟩ : ∃ L, wds line.data.toList = L := ⟨_, rfl⟩
  rw [hL] at hq hwl ⊢
  have HL := KB.As.mk hL
  have hz : line.data.toList.length = line.size := rfl
  clear hL
  go_enter Tryz.func45, Tryz.ntmps45
  go_wp2_with (fail)
  refine (HT.out _ _).mono ?_; rintro e w1 ⟨rfl, rfl⟩
  go_wp2_with (fail)
  go_loopw [0, 3] (fun ln v wr => ∃ (f : Nat) (t : List UInt8) (done : List (List UInt8)), ln = .string (BA (trim t)) ∧ As (done ++ wdsT f (trim t) = L) ∧ (trim t).length ≤ f ∧ f ≤ line.size ∧ rdStr.Own F w1.heap.size 9 wr v (done.map BA) ∧ Ext w1 wr) (fun ln _ _ => match ln with | .string s => s.size | _ => 0)
  case atStart => exact ⟨line.data.toList.length, line.data.toList, [], rfl, ⟨HL.out⟩, trim_len _, Nat.le_of_eq hz, Rd.Own.nil _ _ _ _ _, Ext.refl _⟩
  case round =>
    obtain ⟨f, t, done, rfl, hr, hf, hfl, hown, hE⟩ := hrel
    have hh := trim_head t
    obtain ⟨tt, htt⟩ : ∃ tt, trim t = tt := ⟨_, rfl⟩
    rw [htt] at hr hf hh
    rw [htt]
    clear htt
    obtain ⟨s, hs0⟩ : ∃ s, BA tt = s := ⟨_, rfl⟩
    have hsd : As (s.data.toList = tt) := ⟨by rw [← hs0]⟩
    have hsl : As (s.toList = tt) := ⟨by rw [Lib.toList_data]; exact hsd.out⟩
    rw [hs0]
    have hsz : As (s.size = tt.length) := ⟨by rw [← hs0]; rfl⟩
    clear hs0
    by_cases h0 : tt = []
    · have q1 : s.toList = [] := by rw [hsl.out]; exact h0
      have q2 : s.toList.isEmpty = true := by rw [q1]; rfl
      have hfin : done = L := by
        have := hr.out
        rw [h0] at this
        cases f <;> simpa [wdsT] using this
      rw [hfin] at hown
      have HF := KB.As.mk hfin
      clear hfin h0
      go_wp2_with (fail)
      go_ret
      exact ⟨_, rfl, hown, hE⟩
    · have q1 : ¬ s.toList = [] := by rw [hsl.out]; exact h0
      have q2 : s.toList.isEmpty = false := by rw [Bool.eq_false_iff]; intro q; exact q1 (List.isEmpty_iff.1 q)
      obtain ⟨f, rfl⟩ : ∃ g, f = g + 1 := ⟨f - 1, by have : tt.length ≠ 0 := fun q => h0 (List.eq_nil_of_length_eq_zero q); omega⟩
      have hr2 : done ++ hd tt :: wdsT f (trim (tl tt)) = L := by have := hr.out; rwa [wdsT, if_neg h0] at this
      have hq1 : (hd tt).head? ≠ some 34 := hq _ (by rw [← hr2]; simp)
      rw [hd_head tt h0 hh] at hq1
      have hpre : Lib.hasPrefix s.data.toList [34] = false := by
        rw [hsd.out]
        cases tt with
        | nil => rfl
        | cons a tt =>
          have q : ((34 : UInt8) == a) = false := by rw [beq_eq_false_iff_ne]; intro e; exact hq1 (by rw [← e]; rfl)
          simp [Lib.hasPrefix, List.isPrefixOf, q]
      have hdl : done.length + 1 ≤ L.length := by rw [← hr2]; simp
      have hlt := tl_len tt h0
      have HC1 := HC.out s
      rw [hpre] at HC1
      have hcut := cutC s (by rw [hsz.out]; omega)
      rw [hsd.out] at hcut
      have HCUT := KB.As.mk hcut
      have HC2 := KB.As.mk HC1
      have HR2 := KB.As.mk hr2
      have hdl2 : As ((done.map BA).length = done.length) := ⟨List.length_map ..⟩
      clear hcut HC1 hr2 hpre hq1 hr h0
      go_wp2_with (fail)
      refine (HCUT.out _).mono ?_; rintro e w2 ⟨fl, rfl, hE2⟩
      go_wp2_with (fail)
      refine (HC2.out _).mono ?_; rintro e w3 ⟨rfl, rfl⟩
      have hown2 := hown.ext hE2
      have hE12 := hE.trans hE2
      go_wp2_with (first | (at_builtin; refine wpList_push rfl _ _ _ rfl rdStr elStr rfl (hown2.ext ((Ext.refl _).alloc _)) rfl (heap_alloc_new _ _) (y := BA (hd tt)) rfl (by rw [hdl2.out]; omega) (by rw [hdl2.out]; unfold maxLen; omega) (by have := hE12.size; simp; omega) (hE12.alloc _) ?_; intro v' w4 hown4 hg4 hE4))
      refine (HT.out _ _).mono ?_; rintro e w5 ⟨rfl, rfl⟩
      have e4 : done.map BA ++ [BA (hd tt)] = (done ++ [hd tt]).map BA := by simp
      rw [e4] at hown4
      clear e4
      go_wp2_with (fail)
      go_roundw
      case rel => exact ⟨f, tl tt, done ++ [hd tt], rfl, ⟨by rw [← HR2.out]; simp⟩, Nat.le_trans (trim_len _) (by omega), by omega, hown4, hE4⟩
      case measure =>
        have := trim_len (tl tt)
        have h9 : (BA (trim (tl tt))).size = (trim (tl tt)).length := rfl
        show (BA (trim (tl tt))).size < s.size
        rw [h9, hsz.out]; omega
end K89
namespace KB
open Go Go.RowKit
set_option linter.unusedVariables false
set_option linter.unusedSimpArgs false
variable {w : World} {g : Nat} {T : TypeId}
theorem keep_set1 (w : World) (g j : Nat) (v : Value) : Keep (fun k => k = g) w (w.setCell ⟨g, j, none⟩ v) := Keep.setCell _ _ _ rfl
theorem put4 {a0 a1 a2 a3 : Value} (h : w.heap[g]? = some (.cells #[a0, a1, a2, a3] T (0, 0))) (b0 b1 b2 b3 : Value) :
    ((((w.setCell ⟨g, 0, none⟩ b0).setCell ⟨g, 1, none⟩ b1).setCell ⟨g, 2, none⟩ b2).setCell ⟨g, 3, none⟩ b3).heap[g]? = some (.cells #[b0, b1, b2, b3] T (0, 0)) ∧
    Keep (fun k => k = g) w ((((w.setCell ⟨g, 0, none⟩ b0).setCell ⟨g, 1, none⟩ b1).setCell ⟨g, 2, none⟩ b2).setCell ⟨g, 3, none⟩ b3) := by
  have h0 : (w.setCell ⟨g, 0, none⟩ b0).heap[g]? = some (.cells #[b0, a1, a2, a3] T (0, 0)) := blk_set h 0 b0
  have h1 : ((w.setCell ⟨g, 0, none⟩ b0).setCell ⟨g, 1, none⟩ b1).heap[g]? = some (.cells #[b0, b1, a2, a3] T (0, 0)) := blk_set h0 1 b1
  have h2 : (((w.setCell ⟨g, 0, none⟩ b0).setCell ⟨g, 1, none⟩ b1).setCell ⟨g, 2, none⟩ b2).heap[g]? = some (.cells #[b0, b1, b2, a3] T (0, 0)) := blk_set h1 2 b2
  have h3 : ((((w.setCell ⟨g, 0, none⟩ b0).setCell ⟨g, 1, none⟩ b1).setCell ⟨g, 2, none⟩ b2).setCell ⟨g, 3, none⟩ b3).heap[g]? = some (.cells #[b0, b1, b2, b3] T (0, 0)) := blk_set h2 3 b3
  have k0 := keep_set1 w g 0 b0
  have k1 := k0.trans (keep_set1 (w.setCell ⟨g, 0, none⟩ b0) g 1 b1)
  have k2 := k1.trans (keep_set1 ((w.setCell ⟨g, 0, none⟩ b0).setCell ⟨g, 1, none⟩ b1) g 2 b2)
  have k3 := k2.trans (keep_set1 (((w.setCell ⟨g, 0, none⟩ b0).setCell ⟨g, 1, none⟩ b1).setCell ⟨g, 2, none⟩ b2) g 3 b3)
  exact ⟨h3, k3⟩
theorem put6 {a0 a1 a2 a3 a4 a5 : Value} (h : w.heap[g]? = some (.cells #[a0, a1, a2, a3, a4, a5] T (0, 0))) (b0 b1 b2 b3 b4 b5 : Value) :
    ((((((w.setCell ⟨g, 0, none⟩ b0).setCell ⟨g, 1, none⟩ b1).setCell ⟨g, 2, none⟩ b2).setCell ⟨g, 3, none⟩ b3).setCell ⟨g, 4, none⟩ b4).setCell ⟨g, 5, none⟩ b5).heap[g]? = some (.cells #[b0, b1, b2, b3, b4, b5] T (0, 0)) ∧
    Keep (fun k => k = g) w ((((((w.setCell ⟨g, 0, none⟩ b0).setCell ⟨g, 1, none⟩ b1).setCell ⟨g, 2, none⟩ b2).setCell ⟨g, 3, none⟩ b3).setCell ⟨g, 4, none⟩ b4).setCell ⟨g, 5, none⟩ b5) := by
  have h0 : (w.setCell ⟨g, 0, none⟩ b0).heap[g]? = some (.cells #[b0, a1, a2, a3, a4, a5] T (0, 0)) := blk_set h 0 b0
  have h1 : ((w.setCell ⟨g, 0, none⟩ b0).setCell ⟨g, 1, none⟩ b1).heap[g]? = some (.cells #[b0, b1, a2, a3, a4, a5] T (0, 0)) := blk_set h0 1 b1
  have h2 : (((w.setCell ⟨g, 0, none⟩ b0).setCell ⟨g, 1, none⟩ b1).setCell ⟨g, 2, none⟩ b2).heap[g]? = some (.cells #[b0, b1, b2, a3, a4, a5] T (0, 0)) := blk_set h1 2 b2
  have h3 : ((((w.setCell ⟨g, 0, none⟩ b0).setCell ⟨g, 1, none⟩ b1).setCell ⟨g, 2, none⟩ b2).setCell ⟨g, 3, none⟩ b3).heap[g]? = some (.cells #[b0, b1, b2, b3, a4, a5] T (0, 0)) := blk_set h2 3 b3
  have h4 : (((((w.setCell ⟨g, 0, none⟩ b0).setCell ⟨g, 1, none⟩ b1).setCell ⟨g, 2, none⟩ b2).setCell ⟨g, 3, none⟩ b3).setCell ⟨g, 4, none⟩ b4).heap[g]? = some (.cells #[b0, b1, b2, b3, b4, a5] T (0, 0)) := blk_set h3 4 b4
  have h5 : ((((((w.setCell ⟨g, 0, none⟩ b0).setCell ⟨g, 1, none⟩ b1).setCell ⟨g, 2, none⟩ b2).setCell ⟨g, 3, none⟩ b3).setCell ⟨g, 4, none⟩ b4).setCell ⟨g, 5, none⟩ b5).heap[g]? = some (.cells #[b0, b1, b2, b3, b4, b5] T (0, 0)) := blk_set h4 5 b5
  have k0 := keep_set1 w g 0 b0
  have k1 := k0.trans (keep_set1 (w.setCell ⟨g, 0, none⟩ b0) g 1 b1)
  have k2 := k1.trans (keep_set1 ((w.setCell ⟨g, 0, none⟩ b0).setCell ⟨g, 1, none⟩ b1) g 2 b2)
  have k3 := k2.trans (keep_set1 (((w.setCell ⟨g, 0, none⟩ b0).setCell ⟨g, 1, none⟩ b1).setCell ⟨g, 2, none⟩ b2) g 3 b3)
  have k4 := k3.trans (keep_set1 ((((w.setCell ⟨g, 0, none⟩ b0).setCell ⟨g, 1, none⟩ b1).setCell ⟨g, 2, none⟩ b2).setCell ⟨g, 3, none⟩ b3) g 4 b4)
  have k5 := k4.trans (keep_set1 (((((w.setCell ⟨g, 0, none⟩ b0).setCell ⟨g, 1, none⟩ b1).setCell ⟨g, 2, none⟩ b2).setCell ⟨g, 3, none⟩ b3).setCell ⟨g, 4, none⟩ b4) g 5 b5)
  exact ⟨h5, k5⟩
theorem put7 {a0 a1 a2 a3 a4 a5 a6 : Value} (h : w.heap[g]? = some (.cells #[a0, a1, a2, a3, a4, a5, a6] T (0, 0))) (b0 b1 b2 b3 b4 b5 b6 : Value) :
    (((((((w.setCell ⟨g, 0, none⟩ b0).setCell ⟨g, 1, none⟩ b1).setCell ⟨g, 2, none⟩ b2).setCell ⟨g, 3, none⟩ b3).setCell ⟨g, 4, none⟩ b4).setCell ⟨g, 5, none⟩ b5).setCell ⟨g, 6, none⟩ b6).heap[g]? = some (.cells #[b0, b1, b2, b3, b4, b5, b6] T (0, 0)) ∧
    Keep (fun k => k = g) w (((((((w.setCell ⟨g, 0, none⟩ b0).setCell ⟨g, 1, none⟩ b1).setCell ⟨g, 2, none⟩ b2).setCell ⟨g, 3, none⟩ b3).setCell ⟨g, 4, none⟩ b4).setCell ⟨g, 5, none⟩ b5).setCell ⟨g, 6, none⟩ b6) := by
  have h0 : (w.setCell ⟨g, 0, none⟩ b0).heap[g]? = some (.cells #[b0, a1, a2, a3, a4, a5, a6] T (0, 0)) := blk_set h 0 b0
  have h1 : ((w.setCell ⟨g, 0, none⟩ b0).setCell ⟨g, 1, none⟩ b1).heap[g]? = some (.cells #[b0, b1, a2, a3, a4, a5, a6] T (0, 0)) := blk_set h0 1 b1
  have h2 : (((w.setCell ⟨g, 0, none⟩ b0).setCell ⟨g, 1, none⟩ b1).setCell ⟨g, 2, none⟩ b2).heap[g]? = some (.cells #[b0, b1, b2, a3, a4, a5, a6] T (0, 0)) := blk_set h1 2 b2
  have h3 : ((((w.setCell ⟨g, 0, none⟩ b0).setCell ⟨g, 1, none⟩ b1).setCell ⟨g, 2, none⟩ b2).setCell ⟨g, 3, none⟩ b3).heap[g]? = some (.cells #[b0, b1, b2, b3, a4, a5, a6] T (0, 0)) := blk_set h2 3 b3
  have h4 : (((((w.setCell ⟨g, 0, none⟩ b0).setCell ⟨g, 1, none⟩ b1).setCell ⟨g, 2, none⟩ b2).setCell ⟨g, 3, none⟩ b3).setCell ⟨g, 4, none⟩ b4).heap[g]? = some (.cells #[b0, b1, b2, b3, b4, a5, a6] T (0, 0)) := blk_set h3 4 b4
  have h5 : ((((((w.setCell ⟨g, 0, none⟩ b0).setCell ⟨g, 1, none⟩ b1).setCell ⟨g, 2, none⟩ b2).setCell ⟨g, 3, none⟩ b3).setCell ⟨g, 4, none⟩ b4).setCell ⟨g, 5, none⟩ b5).heap[g]? = some (.cells #[b0, b1, b2, b3, b4, b5, a6] T (0, 0)) := blk_set h4 5 b5
  have h6 : (((((((w.setCell ⟨g, 0, none⟩ b0).setCell ⟨g, 1, none⟩ b1).setCell ⟨g, 2, none⟩ b2).setCell ⟨g, 3, none⟩ b3).setCell ⟨g, 4, none⟩ b4).setCell ⟨g, 5, none⟩ b5).setCell ⟨g, 6, none⟩ b6).heap[g]? = some (.cells #[b0, b1, b2, b3, b4, b5, b6] T (0, 0)) := blk_set h5 6 b6
  have k0 := keep_set1 w g 0 b0
  have k1 := k0.trans (keep_set1 (w.setCell ⟨g, 0, none⟩ b0) g 1 b1)
  have k2 := k1.trans (keep_set1 ((w.setCell ⟨g, 0, none⟩ b0).setCell ⟨g, 1, none⟩ b1) g 2 b2)
  have k3 := k2.trans (keep_set1 (((w.setCell ⟨g, 0, none⟩ b0).setCell ⟨g, 1, none⟩ b1).setCell ⟨g, 2, none⟩ b2) g 3 b3)
  have k4 := k3.trans (keep_set1 ((((w.setCell ⟨g, 0, none⟩ b0).setCell ⟨g, 1, none⟩ b1).setCell ⟨g, 2, none⟩ b2).setCell ⟨g, 3, none⟩ b3) g 4 b4)
  have k5 := k4.trans (keep_set1 (((((w.setCell ⟨g, 0, none⟩ b0).setCell ⟨g, 1, none⟩ b1).setCell ⟨g, 2, none⟩ b2).setCell ⟨g, 3, none⟩ b3).setCell ⟨g, 4, none⟩ b4) g 5 b5)
  have k6 := k5.trans (keep_set1 ((((((w.setCell ⟨g, 0, none⟩ b0).setCell ⟨g, 1, none⟩ b1).setCell ⟨g, 2, none⟩ b2).setCell ⟨g, 3, none⟩ b3).setCell ⟨g, 4, none⟩ b4).setCell ⟨g, 5, none⟩ b5) g 6 b6)
  exact ⟨h6, k6⟩
/-- What was there is kept but for the blocks of F: of those beyond w too. -/
theorem Keep.extNew {F : Nat → Prop} {w W W' : World} (h : Ext w W) (k : Keep F W W') (hF : ∀ i, F i → w.heap.size ≤ i) : Ext w W' := h.keepNew k hF
theorem Keep.or {F G : Nat → Prop} {a b c : World} (h : Keep F a b) (k : Keep G b c) : Keep (fun i => F i ∨ G i) a c :=
  (h.mono (fun _ _ h => .inl h)).trans (k.mono (fun _ _ h => .inr h))
theorem Keep.pre {F : Nat → Prop} {a b c : World} (k : Keep F b c) (h : Ext a b) : Keep F a c := (h.keep F).trans k
theorem Keep.post {F : Nat → Prop} {a b c : World} (k : Keep F a b) (h : Ext b c) : Keep F a c := k.trans (h.keep F)
theorem cell_get {w : World} {a : Addr} {v : Value} (h : w.cell? a = some v) : (w.cell? a).getD undef = v := by rw [h]; rfl
/-- A row under way in a block of its own, behind a store elsewhere. -/
theorem own_set {α : Type} {R : Rd α} (hR : R.Free) {F : Nat → Prop} {B g j : Nat} {e : TypeId} {w : World} {v u : Value} {l : List α} (h : R.Own F B e w v l) (hg : g < B) : R.Own F B e (w.setCell ⟨g, j, none⟩ u) v l :=
  h.free hR (fun k hk => Below.heap_setCell _ _ _ _ (fun e => by have := (h.ge k hk).1; simp at e; omega))
end KB
namespace K99
open Go Go.RowKit Go.Shelf Go.Proofs
open KB K89
set_option linter.unusedVariables false
set_option linter.unusedSimpArgs false
set_option maxHeartbeats 2000000
set_option maxRecDepth 100000
/-- The lines of a text. -/
def splitF : Nat → List UInt8 → List (List UInt8)
  | 0, l => [l]
  | f + 1, l => if l.dropWhile (fun b => !(b == 10)) = [] then [l] else l.takeWhile (fun b => !(b == 10)) :: splitF f ((l.dropWhile (fun b => !(b == 10))).drop 1)
def linesL (l : List UInt8) : List (List UInt8) := splitF l.length l
theorem split_none (f : Nat) (t : List UInt8) (h : t.dropWhile (fun b => !(b == 10)) = []) : splitF f t = [t] := by
  cases f with
  | zero => rfl
  | succ f => rw [splitF, if_pos h]
theorem split_some (f i : Nat) (t : List UInt8) (hf : t.length ≤ f) (hi : i < t.length) (h1 : t.takeWhile (fun b => !(b == 10)) = t.take i) (h2 : (t.dropWhile (fun b => !(b == 10))).drop 1 = t.drop (i + 1)) : ∃ g, f = g + 1 ∧ splitF f t = t.take i :: splitF g (t.drop (i + 1)) := by
  obtain ⟨g, rfl⟩ : ∃ g, f = g + 1 := ⟨f - 1, by omega⟩
  refine ⟨g, rfl, ?_⟩
  have hne : ¬ t.dropWhile (fun b => !(b == 10)) = [] := fun q => by
    have := congrArg List.length (List.takeWhile_append_dropWhile (p := fun b : UInt8 => !(b == 10)) (l := t))
    rw [q, h1, List.append_nil, List.length_take] at this
    omega
  rw [splitF, if_neg hne, h1, h2]
theorem drop_out {α : Type} {l : List α} {i : Nat} {x : α} {r : List α} (h : l.drop i = x :: r) : ∃ hi : i < l.length, l[i] = x ∧ l.drop (i + 1) = r := by
  have hi : i < l.length := by
    rcases Nat.lt_or_ge i l.length with q | q
    · exact q
    · rw [List.drop_of_length_le q] at h; cases h
  refine ⟨hi, ?_⟩
  rw [List.drop_eq_getElem_cons hi] at h
  exact ⟨(List.cons.inj h).1, (List.cons.inj h).2⟩
theorem indexC (s : ByteArray) (w : World) : Calls Tryz.prog 180 #[.string s, .string ⟨#[10]⟩] w fun e w' => e = .returned (.int .i64 (Lib.indexByte s.data.toList 10)) ∧ w' = w := by
  have HI := As.mk (Tryz.stringslite_Index_one s 10)
  go_enter Tryz.func180, Tryz.ntmps180
  go_wp2_with (fail)
  refine (HI.out _).mono ?_; rintro e w1 ⟨rfl, rfl⟩
  go_wp2_with (fail)
  go_ret
  exact ⟨rfl, rfl⟩
theorem splitC (F : Fence) (n : Nat) (h10 : F.fn 178) (hFi : F.fn 180) (hro : F.round = none) (hn : 1 ≤ n) (hix : ∀ (s : ByteArray) (w : World), CallsIn F (n - 1) Tryz.prog 180 #[.string s, .string ⟨#[10]⟩] w fun e w' => e = .returned (.int .i64 (Lib.indexByte s.data.toList 10)) ∧ w' = w)
    (l b1 b2 b3 : Nat) (hb12 : ¬ b1 = b2) (hb32 : ¬ b3 = b2) (src : List UInt8) (hsz : src.length ≤ 1000000000) (J : Nat → World → Prop)
    (hJ2 : ∀ k W v, J k W → J k (W.setCell ⟨b2, 0, none⟩ v))
    (hY : ∀ k (hk : k < (linesL src).length) W, J k W → YieldAt F (n - 1) Tryz.prog l #[.string (BA (linesL src)[k])] W fun e W' => e = .returned (.bool true) ∧ J (k + 1) W' ∧ W'.heap[b1]? = W.heap[b1]? ∧ W'.heap[b2]? = W.heap[b2]? ∧ W'.heap[b3]? = W.heap[b3]?)
    (W : World) (h1 : W.heap[b1]? = some (.cells #[.string ⟨#[10]⟩] 9 (0, 0))) (h2 : W.heap[b2]? = some (.cells #[.string (BA src)] 9 (0, 0))) (h3 : W.heap[b3]? = some (.cells #[.int .i64 0] 3 (0, 0))) (h0 : J 0 W) :
    CallsIn F n Tryz.prog 178 #[.func (.yield l) #[] #[], .pointer (some ⟨b1, 0, none⟩), .pointer (some ⟨b2, 0, none⟩), .pointer (some ⟨b3, 0, none⟩)] W fun e W' => (∃ v, e = .returned v) ∧ J (linesL src).length W' := by
  obtain ⟨L, hL⟩ : ∃ L, linesL src = L := ⟨_, rfl⟩
  rw [hL] at hY ⊢
  have hstart : L.drop 0 = splitF src.length src := by rw [← hL]; rfl
  clear hL
  (have p0 := blk_cell (h1) 0)
  refine callsIn_of_wp Tryz.func178 rfl h10 ?_ hro
  simp only [Tryz.ntmps178, List.size_toArray, List.length_cons, List.length_nil, Nat.reduceAdd, Nat.reduceSub, Array.replicate_succ, Array.replicate_zero, List.push_toArray, List.append_toArray, List.nil_append, List.cons_append]
  gi_wp2
  clear p0
  gi_loopw [] (fun wr => ∃ (k f : Nat) (t : List UInt8), L.drop k = splitF f t ∧ t.length ≤ f ∧ t.length ≤ 1000000000 ∧ wr.heap[b1]? = some (.cells #[.string ⟨#[10]⟩] 9 (0, 0)) ∧ wr.heap[b2]? = some (.cells #[.string (BA t)] 9 (0, 0)) ∧ wr.heap[b3]? = some (.cells #[.int .i64 0] 3 (0, 0)) ∧ J k wr) (fun wr => match wr.cell? ⟨b2, 0, none⟩ with | some (.string s) => s.size | _ => 0)
  case atStart => exact ⟨0, src.length, src, hstart, Nat.le_refl _, hsz, h1, h2, h3, h0⟩
  case round =>
    obtain ⟨k, f, t, hd, hf, ht, g1, g2, g3, hJ⟩ := hrel
    obtain ⟨s, hs0⟩ : ∃ s, BA t = s := ⟨_, rfl⟩
    have hsd : As (s.data.toList = t) := ⟨by rw [← hs0]⟩
    have hss : As (s.size = t.length) := ⟨by rw [← hs0]; rfl⟩
    rw [hs0] at g2
    have hc := blk_cell g2 0
    (have p0 := blk_cell (g1) 0; have pf0 := blk_froz (g1) 0)
    (have q0 := blk_cell (g2) 0; have qf0 := blk_froz (g2) 0)
    (have r0 := blk_cell (g3) 0; have rf0 := blk_froz (g3) 0)
    rcases indexByte_split 10 t with ⟨e1, e2, e3⟩ | ⟨i, e1, e2, e3, e4⟩
    · have hd2 := hd
      rw [split_none f t e3] at hd2
      obtain ⟨hk, hx, hrest⟩ := drop_out hd2
      have hkl : k + 1 = L.length := by
        have := congrArg List.length hrest
        rw [List.length_drop] at this; simp at this; omega
      obtain ⟨fn, tmps, assign, body, hy, hR⟩ := hY k hk wr hJ
      rw [hx, hs0] at hy
      have HIX := As.mk (hix s)
      rw [hsd.out, e1] at HIX
      gi_wp2_with (gi_at_call 180; refine (HIX.out _).mono ?_; rintro e w2 ⟨rfl, rfl⟩)
      refine hR.mono ?_
      rintro e W3 ⟨rfl, hJ3, -, -, -⟩
      gi_wp2
      go_end0
      exact ⟨⟨_, rfl⟩, by rw [← hkl]; exact hJ3⟩
    · obtain ⟨g, rfl, hsp⟩ := split_some f i t hf e2 e3 e4
      have hd2 := hd
      rw [hsp] at hd2
      obtain ⟨hk, hx, hrest⟩ := drop_out hd2
      obtain ⟨fn, tmps, assign, body, hy, hR⟩ := hY k hk wr hJ
      have epre : s.extract 0 i = BA (t.take i) := by rw [ext_pre, hsd.out]
      have esuf : s.extract (i + 1) s.size = BA (t.drop (i + 1)) := by rw [ext_suf, hsd.out]
      rw [hx] at hy
      have HIX := As.mk (hix s)
      rw [hsd.out, e1] at HIX
      have hi : i < s.size := by rw [hss.out]; exact e2
      gi_wp2_with (gi_at_call 180; refine (HIX.out _).mono ?_; rintro e w2 ⟨rfl, rfl⟩)
      refine hR.mono ?_
      rintro e W3 ⟨rfl, hJ3, k1, k2, k3⟩
      have G1 := k1.trans g1
      have G2 := k2.trans g2
      have G3 := k3.trans g3
      clear p0 pf0
      clear q0 qf0
      clear r0 rf0
      (have p0 := blk_cell (G1) 0; have pf0 := blk_froz (G1) 0)
      (have q0 := blk_cell (G2) 0; have qf0 := blk_froz (G2) 0)
      (have r0 := blk_cell (G3) 0; have rf0 := blk_froz (G3) 0)
      gi_wp2
      have KS := keep_set1 W3 b2 0 (.string (BA (t.drop (i + 1))))
      have N2 := blk_set G2 0 (.string (BA (t.drop (i + 1))))
      have hdl : (t.drop (i + 1)).length = t.length - (i + 1) := List.length_drop
      go_roundw
      case rel => exact ⟨k + 1, g, t.drop (i + 1), hrest, by rw [hdl]; omega, by rw [hdl]; omega, KS.blk hb12 G1, N2, KS.blk hb32 G3, hJ2 _ _ _ hJ3⟩
      case measure =>
        have m1 := blk_cell N2 0
        have m2 : (BA (t.drop (i + 1))).size = t.length - (i + 1) := hdl
        rw [hc]
        first
          | (rw [m1]; show (BA (t.drop (i + 1))).size < s.size; rw [m2, hss.out]; omega)
          | (first | rfl | skip)
end K99
namespace K100
open Go Go.RowKit Go.Shelf Go.Proofs
open KB K89 K99
set_option linter.unusedVariables false
set_option linter.unusedSimpArgs false
set_option maxHeartbeats 2000000
set_option maxRecDepth 100000
/-- What a round leaves. -/
def linePost (B b1 b2 b3 : Nat) (I : World → Prop) (W : World) : Exit → Act → World → Prop
  | .normal, _, W' => I W' ∧ W'.heap[B]? = W.heap[B]? ∧ W'.heap[B + 1]? = W.heap[B + 1]? ∧ W'.heap[b1]? = W.heap[b1]? ∧ W'.heap[b2]? = W.heap[b2]? ∧ W'.heap[b3]? = W.heap[b3]?
  | _, _, _ => False
theorem rangeLines {g : Operand} {p : Tmp} {assign body : Code} {Q : Exit → Act → World → Prop} {a : Act} {w : World} (b1 b2 b3 : Nat) (hb1 : b1 < w.heap.size) (hb2 : b2 < w.heap.size) (hb3 : b3 < w.heap.size) (hb12 : ¬ b1 = b2) (hb32 : ¬ b3 = b2)
    (hg : a.eval g = .func (.func 178) #[] #[.pointer (some ⟨b1, 0, none⟩), .pointer (some ⟨b2, 0, none⟩), .pointer (some ⟨b3, 0, none⟩)]) (src : List UInt8) (hsz : src.length ≤ 1000000000)
    (h1 : w.heap[b1]? = some (.cells #[.string ⟨#[10]⟩] 9 (0, 0))) (h2 : w.heap[b2]? = some (.cells #[.string (BA src)] 9 (0, 0))) (h3 : w.heap[b3]? = some (.cells #[.int .i64 0] 3 (0, 0)))
    (I : Nat → World → Prop) (hIa : ∀ r, I 0 ((w.alloc (.deferred (some []))).alloc (.loop r))) (hIp : ∀ k W l o, w.heap.size ≤ l → l ≤ w.heap.size + 1 → I k W → I k (W.putObj l o)) (hI2 : ∀ k W v, I k W → I k (W.setCell ⟨b2, 0, none⟩ v))
    (Ax : Nat → Act → Prop)
    (hassign : ∀ (l k : Nat) (hk : k < (linesL src).length) (W : World) (K : Act → World → Prop), (∀ a', Ax k a' → K a' W) → assign.wpIn (Fence.wide.inRound l) 1 Tryz.prog (Exit.then K (fun _ _ _ => False)) { tmps := a.tmps.setIfInBounds p (.string (BA (linesL src)[k])), defers := [] } W)
    (hbody : ∀ (k : Nat) (hk : k < (linesL src).length) (a' : Act) (W : World), I k W → Ax k a' → w.heap.size + 1 < W.heap.size → body.wpIn (Fence.wide.inRound (w.heap.size + 1)) 1 Tryz.prog (linePost w.heap.size b1 b2 b3 (I (k + 1)) W) a' W)
    (hdone : ∀ (W : World), I (linesL src).length W → W.heap[w.heap.size]? = some (.deferred (some [])) → Q .normal { a with defers := { target := .collected w.heap.size, args := #[] } :: a.defers } W) :
    (Code.rangeFunc g #[p] assign body).wpIn Fence.wide 3 Tryz.prog Q a w := by
  refine wpIn_rangeFunc ?_
  intro fn hfn
  obtain ⟨rec, hrec⟩ : ∃ rec : LoopState → Option Code → Loop, rec = fun st pe => { state := st, pending := pe, fn, tmps := a.tmps, params := #[p], assign, body, defers := w.heap.size } := ⟨_, rfl⟩
  obtain ⟨W1, hW1⟩ : ∃ W1, (w.alloc (.deferred (some []))).alloc (.loop (rec .ready none)) = W1 := ⟨_, rfl⟩
  have hL1 : W1.heap[w.heap.size + 1]? = some (.loop (rec .ready none)) := by
    rw [← hW1]; have := World.alloc_heap_new (w.alloc (.deferred (some []))) (.loop (rec .ready none)); rwa [World.size_alloc] at this
  have hK1 : W1.heap[w.heap.size]? = some (.deferred (some [])) := by
    rw [← hW1]; exact (Below.heap_alloc _ _ _ (by simp)).trans (World.alloc_heap_new w _)
  have hI1 : I 0 W1 := by rw [← hW1]; exact hIa _
  have hE1 : Ext w W1 := by rw [← hW1]; exact ((Ext.refl w).alloc _).alloc _
  refine ⟨w.heap.size + 1, [{ target := .collected w.heap.size, args := #[] }], W1, { target := .fn (.func 178) #[.pointer (some ⟨b1, 0, none⟩), .pointer (some ⟨b2, 0, none⟩), .pointer (some ⟨b3, 0, none⟩)], args := #[.func (.yield (w.heap.size + 1)) #[] #[]] }, W1, 178,
    #[.func (.yield (w.heap.size + 1)) #[] #[], .pointer (some ⟨b1, 0, none⟩), .pointer (some ⟨b2, 0, none⟩), .pointer (some ⟨b3, 0, none⟩)], W1, ?_, ?_, ?_, ?_, ?_, ?_⟩
  · rw [← hW1, hrec]; exact run_enterLoop_outer _ _ _ _ _
  · simp only [resolve, hg]
    simp [go_sem]
  · intro f' hf'; trivial
  · have eg : ∀ args w, (callFunc 178 args).run Tryz.prog w = .ok (.enter 178 args) w := enters_of Tryz.func178 (by kernel_rfl) rfl
    simp [invoke, go_sem, eg]
  · intro h; cases h
  · refine CallsIn.mono (splitC Fence.wide (3 - 1) trivial trivial rfl ?_ (fun s W => callsIn_wide.2 (indexC s W)) (w.heap.size + 1) b1 b2 b3 hb12 hb32 src hsz
      (fun k W => I k W ∧ W.heap[w.heap.size + 1]? = some (.loop (rec .ready none)) ∧ W.heap[w.heap.size]? = some (.deferred (some [])))
      ?_ ?_ W1 (hE1.blk h1) (hE1.blk h2) (hE1.blk h3) ⟨hI1, hL1, hK1⟩) ?_
    · decide
    · rintro k W v ⟨q1, q2, q3⟩
      have K := keep_set1 W b2 0 v
      exact ⟨hI2 k W v q1, K.blk (by omega) q2, K.blk (by omega) q3⟩
    · rintro k hk W ⟨hi, hl, hk1⟩
      have hlt : w.heap.size + 1 < W.heap.size := (Array.getElem?_eq_some_iff.1 hl).1
      have hy := run_yield (P := Tryz.prog) (args := #[.string (BA (linesL src)[k])]) hl (by rw [hrec]; rfl)
      rw [hrec] at hy
      have hy2 : (Instr.yield (w.heap.size + 1) #[.string (BA (linesL src)[k])]).run Tryz.prog W = .ok (.round (w.heap.size + 1) fn (a.tmps.setIfInBounds p (.string (BA (linesL src)[k]))) assign body) W := by
        rw [hy]; simp
      refine ⟨fn, _, assign, body, hy2, roundIn_of_wpIn hfn (hassign _ k hk W _ fun a' hax => ?_)⟩
      clear hy hy2
      refine ⟨_, run_beginRound hl (by rw [hrec]), ?_⟩
      have hl2 : (W.putObj (w.heap.size + 1) (.loop { rec .ready none with state := .busy })).heap[w.heap.size + 1]? = some (.loop { rec .ready none with state := .busy }) := World.putObj_heap_same hlt
      have hk2 : (W.putObj (w.heap.size + 1) (.loop { rec .ready none with state := .busy })).heap[w.heap.size]? = some (.deferred (some [])) := (World.putObj_heap_other (by omega)).trans hk1
      have q1 : (W.putObj (w.heap.size + 1) (.loop { rec .ready none with state := .busy })).heap[b1]? = W.heap[b1]? := World.putObj_heap_other (by omega)
      have q2 : (W.putObj (w.heap.size + 1) (.loop { rec .ready none with state := .busy })).heap[b2]? = W.heap[b2]? := World.putObj_heap_other (by omega)
      have q3 : (W.putObj (w.heap.size + 1) (.loop { rec .ready none with state := .busy })).heap[b3]? = W.heap[b3]? := World.putObj_heap_other (by omega)
      refine wpIn_mono (hbody k hk a' _ (hIp _ _ _ _ (by omega) (by omega) hi) hax (by first | exact (Array.getElem?_eq_some_iff.1 hl2).1)) ?_
      rintro e a3 W3 hp
      cases e with
      | normal =>
        obtain ⟨hi3, r1, r2, r3, r4, r5⟩ := hp
        have hl3 := r2.trans hl2
        have hlt3 : w.heap.size + 1 < W3.heap.size := (Array.getElem?_eq_some_iff.1 hl3).1
        have hr := run_endRound (P := Tryz.prog) none hl3
        rw [hrec] at hr
        refine ⟨_, _, hr, rfl, ⟨hIp _ _ _ _ (by omega) (by omega) hi3, ?_, ?_⟩, ?_, ?_, ?_⟩
        · rw [hrec]; exact World.putObj_heap_same hlt3
        · exact (World.putObj_heap_other (by omega)).trans (r1.trans hk2)
        · exact (World.putObj_heap_other (by omega)).trans (r3.trans q1)
        · exact (World.putObj_heap_other (by omega)).trans (r4.trans q2)
        · exact (World.putObj_heap_other (by omega)).trans (r5.trans q3)
      | ret => exact hp.elim
      | exit id => exact hp.elim
      | goto t => exact hp.elim
      | panic ch => exact hp.elim
      | outgrown => exact hp.elim
    · rintro e W2 ⟨⟨v, rfl⟩, hi, hl, hk⟩
      have hend := run_endLoop (P := Tryz.prog) hl (by rw [hrec]; simp)
      rw [hrec] at hend
      exact ⟨none, _, hend, hdone _ (hIp _ _ _ _ (by omega) (by omega) hi) ((World.putObj_heap_other (by omega)).trans hk)⟩
end K100
end Go.Proofs.YtbjeejimedhniaaGreatDoor
namespace Go.Proofs
open Go.Shelf
def Tryz.lays169_ren : Go.Shelf.Ren := ⟨fun | 169 => 48 | n => n, fun | 70 => 119 | 9 => 9 | 0 => 0 | 72 => 122 | 37 => 120 | 127 => 191 | 3 => 3 | 5 => 5 | n => n, fun | n => n⟩
theorem Tryz.lays169 : Go.Proofs.Lays.n169 Tryz.prog Tryz.lays169_ren := {
  mixed := by kernel_rfl
  f169 := Tryz.func48.trans (congrArg some (by kernel_rfl))
  t0 := Tryz.underlying0
  a0 := Tryz.isAgg0
  z0 := Tryz.sizeOf0
  v0 := Tryz.zeroValue0
  t3 := Tryz.underlying3
  a3 := Tryz.isAgg3
  z3 := Tryz.sizeOf3
  v3 := Tryz.zeroValue3
  t9 := Tryz.underlying9
  a9 := Tryz.isAgg9
  z9 := Tryz.sizeOf9
  v9 := Tryz.zeroValue9
  t37 := Tryz.underlying120
  a37 := Tryz.isAgg120
  z37 := Tryz.sizeOf120
  v37 := Tryz.zeroValue120
  t70 := Tryz.underlying119
  a70 := Tryz.isAgg119
  z70 := Tryz.sizeOf119
  v70 := Tryz.zeroValue119
  t72 := Tryz.underlying122
  a72 := Tryz.isAgg122
  z72 := Tryz.sizeOf122
  v72 := Tryz.zeroValue122
  t127 := Tryz.underlying191
  a127 := Tryz.isAgg191
  z127 := Tryz.sizeOf191
  v127 := Tryz.zeroValue191 }
theorem Tryz.Builder_Extra_169 : Builder.Extra Tryz.prog Tryz.lays169_ren := {
  sizeBuilder := by kernel_rfl
  liesBuilder := by kernel_rfl
  t5 := Tryz.underlying5
  a5 := Tryz.isAgg5
  z5 := Tryz.sizeOf5
  v5 := Tryz.zeroValue5
  infoByte := by kernel_rfl
  cellsByte := by kernel_rfl
  sizeByte := by kernel_rfl
  neB5 := by decide }
open Go.RowKit in
theorem Tryz.Builder_String_any_k (B b : Nat) (l : List UInt8) (w : World) (h : Lib.IsBuilderF 122 5 B b (Lib.byteCells l) w) (hBw : B ≤ w.heap.size) :
    Calls Tryz.prog 48 #[.pointer (some ⟨b, 0, none⟩)] w fun e w' => e = .returned (.string ⟨l.toArray⟩) ∧ (Lib.IsBuilderF 122 5 B b (Lib.byteCells l) w' ∧ Below B w w' ∧ Lib.OthersKept 5 (some b) w w') := Any.Builder_String_any_k Tryz.lays169 Tryz.Builder_Extra_169 B b l w h hBw
end Go.Proofs
