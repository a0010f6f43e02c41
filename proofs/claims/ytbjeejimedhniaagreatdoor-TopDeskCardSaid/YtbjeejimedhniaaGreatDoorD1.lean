/- Contracts of the program's functions, as the walks of the law use them. -/
import Derived.Test.YtbjeejimedhniaaGreatDoorD0
import Derived.Shelf.Strings.Trim
import Derived.Shelf.Strings.Search3
import Derived.Shelf.Small.Wraps
import Derived.Test.YtbjeejimedhniaaGreatDoorProg
set_option linter.unusedVariables false
set_option linter.unusedSimpArgs false
set_option maxRecDepth 100000
set_option maxHeartbeats 1000000
namespace Go.Proofs.YtbjeejimedhniaaGreatDoor
namespace K2
open Go Go.RowKit KB K1
def I64 (n : Int) : Prop := -9223372036854775808 ≤ n ∧ n ≤ 9223372036854775807
abbrev emp : ByteArray := ⟨#[]⟩
def ValOk (t : Int) (v : Val) : Prop := I64 v.1 ∧ ((t = 1 ∨ t = 2) ∧ v.2 = emp ∨ t = 3 ∧ v.1 = 0 ∧ v.2.size ≤ 60)
abbrev valV (v : Val) : Value := .agg #[.int .i64 v.1, .string v.2]
theorem fits (t : Int) (v : Val) (h : ValOk t v) (w : World) : Calls Tryz.prog 124 #[.int .i64 t, valV v] w fun e w' => e = .returned (.bool true) ∧ Ext w w' := by
 obtain ⟨n, s⟩ := v
 obtain ⟨_, h⟩ := h
 rcases h with ⟨rfl | rfl, rfl⟩ | ⟨rfl, rfl, hs⟩
 · go_enter Tryz.func124, Tryz.ntmps124
   go_wp2
   go_ret
   exact ⟨rfl, (Ext.refl w).alloc _⟩
 · go_enter Tryz.func124, Tryz.ntmps124
   go_wp2
   go_ret
   exact ⟨rfl, (Ext.refl w).alloc _⟩
 · have h1 : decide ((s.size : Int) ≤ 60) = true := decide_eq_true (by simp at hs; omega)
   go_enter Tryz.func124, Tryz.ntmps124
   go_wp2
   go_ret
   exact ⟨by first | rfl | (simp at h1 hs; simp [hs]), (Ext.refl w).alloc _⟩
def cmpI (a b : Int) : Int := if a < b then -1 else if b < a then 1 else 0
theorem nanU (a : Int) (w : World) : Calls Tryz.prog 302 #[.int .u64 a] w fun e w' => e = .returned (.bool false) ∧ w = w' := by
 go_enter Tryz.func302, Tryz.ntmps302
 go_wp2
 go_ret
 simp
theorem cmpUC (a b : Int) (w : World) : Calls Tryz.prog 221 #[.int .u64 a, .int .u64 b] w fun e w' => e = .returned (.int .i64 (cmpI a b)) ∧ w = w' := by
 unfold cmpI
 rcases Int.lt_trichotomy a b with h | h | h
 · have h1 : decide (a < b) = true := decide_eq_true h
   go_enter Tryz.func221, Tryz.ntmps221
   go_wp2_with (refine (nanU _ _).mono ?_; rintro e w' ⟨rfl, rfl⟩)
   go_ret
   simp [h]
 · subst h
   have h1 : decide (a < a) = false := decide_eq_false (by omega)
   go_enter Tryz.func221, Tryz.ntmps221
   go_wp2_with (refine (nanU _ _).mono ?_; rintro e w' ⟨rfl, rfl⟩)
   go_ret
   simp
 · have h0 : ¬ a < b := by omega
   have h1 : decide (a < b) = false := decide_eq_false h0
   have h2 : decide (b < a) = true := decide_eq_true h
   go_enter Tryz.func221, Tryz.ntmps221
   go_wp2_with (refine (nanU _ _).mono ?_; rintro e w' ⟨rfl, rfl⟩)
   go_ret
   simp [h, h0]
theorem nanI (a : Int) (w : World) : Calls Tryz.prog 303 #[.int .i64 a] w fun e w' => e = .returned (.bool false) ∧ w = w' := by
 go_enter Tryz.func303, Tryz.ntmps303
 go_wp2
 go_ret
 simp
theorem cmpIC (a b : Int) (w : World) : Calls Tryz.prog 222 #[.int .i64 a, .int .i64 b] w fun e w' => e = .returned (.int .i64 (cmpI a b)) ∧ w = w' := by
 unfold cmpI
 rcases Int.lt_trichotomy a b with h | h | h
 · have h1 : decide (a < b) = true := decide_eq_true h
   go_enter Tryz.func222, Tryz.ntmps222
   go_wp2_with (refine (nanI _ _).mono ?_; rintro e w' ⟨rfl, rfl⟩)
   go_ret
   simp [h]
 · subst h
   have h1 : decide (a < a) = false := decide_eq_false (by omega)
   go_enter Tryz.func222, Tryz.ntmps222
   go_wp2_with (refine (nanI _ _).mono ?_; rintro e w' ⟨rfl, rfl⟩)
   go_ret
   simp
 · have h0 : ¬ a < b := by omega
   have h1 : decide (a < b) = false := decide_eq_false h0
   have h2 : decide (b < a) = true := decide_eq_true h
   go_enter Tryz.func222, Tryz.ntmps222
   go_wp2_with (refine (nanI _ _).mono ?_; rintro e w' ⟨rfl, rfl⟩)
   go_ret
   simp [h, h0]
theorem nanN (a : Int) (w : World) : Calls Tryz.prog 409 #[.int .i64 a] w fun e w' => e = .returned (.bool false) ∧ w = w' := by
 go_enter Tryz.func409, Tryz.ntmps409
 go_wp2
 go_ret
 simp
theorem cmpNC (a b : Int) (w : World) : Calls Tryz.prog 441 #[.int .i64 a, .int .i64 b] w fun e w' => e = .returned (.int .i64 (cmpI a b)) ∧ w = w' := by
 unfold cmpI
 rcases Int.lt_trichotomy a b with h | h | h
 · have h1 : decide (a < b) = true := decide_eq_true h
   go_enter Tryz.func441, Tryz.ntmps441
   go_wp2_with (refine (nanN _ _).mono ?_; rintro e w' ⟨rfl, rfl⟩)
   go_ret
   simp [h]
 · subst h
   have h1 : decide (a < a) = false := decide_eq_false (by omega)
   go_enter Tryz.func441, Tryz.ntmps441
   go_wp2_with (refine (nanN _ _).mono ?_; rintro e w' ⟨rfl, rfl⟩)
   go_ret
   simp
 · have h0 : ¬ a < b := by omega
   have h1 : decide (a < b) = false := decide_eq_false h0
   have h2 : decide (b < a) = true := decide_eq_true h
   go_enter Tryz.func441, Tryz.ntmps441
   go_wp2_with (refine (nanN _ _).mono ?_; rintro e w' ⟨rfl, rfl⟩)
   go_ret
   simp [h, h0]
def cmpV (t : Int) (a b : Val) : Int := if t = 3 then Lib.compareBytes a.2.data.toList b.2.data.toList else if t = 2 then cmpI (IntKind.u64.wrap a.1) (IntKind.u64.wrap b.1) else cmpI a.1 b.1
theorem compareV (t : Int) (a b : Val) (ha : ValOk t a) (hb : ValOk t b) (w : World) : Calls Tryz.prog 119 #[.int .i64 t, valV a, valV b] w fun e w' => e = .returned (.int .i64 (cmpV t a b)) ∧ Ext w w' := by
 have ht : t = 1 ∨ t = 2 ∨ t = 3 := by rcases ha.2 with ⟨h | h, _⟩ | ⟨h, _⟩ <;> simp [h]
 rcases ht with rfl | rfl | rfl
 all_goals
   go_enter Tryz.func119, Tryz.ntmps119
   go_wp2_with (fail)
   refine (fits _ a ha _).mono ?_; rintro e w1 ⟨rfl, hb1⟩
   have hc := hb1.cs
   have hz : w.heap.size + 2 ≤ w1.heap.size := by have := hb1.size; simpa using this
   have hz1 : w.heap.size < w1.heap.size := by omega
   have hz2 : w.heap.size + 1 < w1.heap.size := by omega
   go_wp2_with (fail)
   refine (fits _ b hb _).mono ?_; rintro e w2 ⟨rfl, hb2⟩
   have hc2 := hb2.cs
   have hE : Ext w w2 := ((((Ext.refl w).alloc _).alloc _).trans hb1).trans hb2
   go_wp2_with (first | (refine (cmpIC _ _ _).mono ?_; rintro e w' ⟨rfl, rfl⟩) | (refine (cmpUC _ _ _).mono ?_; rintro e w' ⟨rfl, rfl⟩) | (refine (Tryz.strings_Compare _ _ _).mono ?_; rintro e w' ⟨rfl, rfl⟩))
   go_ret
   exact ⟨by simp [cmpV], by first | assumption | exact hE⟩
def addV (t : Int) (a b : Val) : Val := if t = 3 then b else (wrap64 (a.1 + b.1), emp)
theorem addC (t : Int) (a b : Val) (ha : ValOk t a) (hb : ValOk t b) (w : World) : Calls Tryz.prog 339 #[.int .i64 t, valV a, valV b] w fun e w' => e = .returned (valV (addV t a b)) ∧ Ext w w' := by
 have ht : t = 1 ∨ t = 2 ∨ t = 3 := by rcases ha.2 with ⟨h | h, _⟩ | ⟨h, _⟩ <;> simp [h]
 rcases ht with rfl | rfl | rfl
 · go_enter Tryz.func339, Tryz.ntmps339
   go_wp2_with (fail)
   refine (fits _ a ha _).mono ?_; rintro e w1 ⟨rfl, hb1⟩
   have hc := hb1.cs
   have hz : w.heap.size + 3 ≤ w1.heap.size := by have := hb1.size; simpa using this
   have hz1 : w.heap.size < w1.heap.size := by omega
   have hz2 : w.heap.size + 1 < w1.heap.size := by omega
   have B1 := hb1.blk (bN _ _)
   simp only [World.size_alloc] at B1
   go_wp2_with (fail)
   refine (fits _ b hb _).mono ?_; rintro e w2 ⟨rfl, hb2⟩
   have hc2 := hb2.cs
   have B2 := hb2.blk B1
   have hE : Ext w w2 := (((((Ext.refl w).alloc _).alloc _).alloc _).trans hb1).trans hb2
   have d0 := bC B2 0
   have d1 := bC B2 1
   have f0 := bF B2 0
   have f1 := bF B2 1
   have B3 := bS (bS B2 0 (.int .i64 (wrap64 (a.1 + b.1)))) 1 (.string ⟨#[]⟩)
   have hE2 := (hE.setCell (a := ⟨w.heap.size + 1 + 1, 0, none⟩) (by simp; omega) (.int .i64 (wrap64 (a.1 + b.1)))).setCell (a := ⟨w.heap.size + 1 + 1, 1, none⟩) (by simp; omega) (.string ⟨#[]⟩)
   have e0 := bC B3 0
   have e1 := bC B3 1
   clear B1 B2 B3
   go_wp2_with (fail)
   (try simp only [Exit.inBlock, Exit.then])
   refine bodyPost_ret (v := valV (addV 1 a b)) (by simp [results, Tryz.results339, go_sem, e0, e1, addV]) rfl ?_
   exact ⟨rfl, hE2⟩
 · go_enter Tryz.func339, Tryz.ntmps339
   go_wp2_with (fail)
   refine (fits _ a ha _).mono ?_; rintro e w1 ⟨rfl, hb1⟩
   have hc := hb1.cs
   have hz : w.heap.size + 3 ≤ w1.heap.size := by have := hb1.size; simpa using this
   have hz1 : w.heap.size < w1.heap.size := by omega
   have hz2 : w.heap.size + 1 < w1.heap.size := by omega
   have B1 := hb1.blk (bN _ _)
   simp only [World.size_alloc] at B1
   go_wp2_with (fail)
   refine (fits _ b hb _).mono ?_; rintro e w2 ⟨rfl, hb2⟩
   have hc2 := hb2.cs
   have B2 := hb2.blk B1
   have hE : Ext w w2 := (((((Ext.refl w).alloc _).alloc _).alloc _).trans hb1).trans hb2
   have d0 := bC B2 0
   have d1 := bC B2 1
   have f0 := bF B2 0
   have f1 := bF B2 1
   have B3 := bS (bS B2 0 (.int .i64 (wrap64 (a.1 + b.1)))) 1 (.string ⟨#[]⟩)
   have hE2 := (hE.setCell (a := ⟨w.heap.size + 1 + 1, 0, none⟩) (by simp; omega) (.int .i64 (wrap64 (a.1 + b.1)))).setCell (a := ⟨w.heap.size + 1 + 1, 1, none⟩) (by simp; omega) (.string ⟨#[]⟩)
   have e0 := bC B3 0
   have e1 := bC B3 1
   clear B1 B2 B3
   go_wp2_with (fail)
   (try simp only [Exit.inBlock, Exit.then])
   refine bodyPost_ret (v := valV (addV 2 a b)) (by simp [results, Tryz.results339, go_sem, e0, e1, addV]) rfl ?_
   exact ⟨rfl, hE2⟩
 · go_enter Tryz.func339, Tryz.ntmps339
   go_wp2_with (fail)
   refine (fits _ a ha _).mono ?_; rintro e w1 ⟨rfl, hb1⟩
   have hc := hb1.cs
   have hz : w.heap.size + 3 ≤ w1.heap.size := by have := hb1.size; simpa using this
   have hz1 : w.heap.size < w1.heap.size := by omega
   have hz2 : w.heap.size + 1 < w1.heap.size := by omega
   have B1 := hb1.blk (bN _ _)
   simp only [World.size_alloc] at B1
   go_wp2_with (fail)
   refine (fits _ b hb _).mono ?_; rintro e w2 ⟨rfl, hb2⟩
   have hc2 := hb2.cs
   have B2 := hb2.blk B1
   have hE : Ext w w2 := (((((Ext.refl w).alloc _).alloc _).alloc _).trans hb1).trans hb2
   have d0 := bC B2 0
   have d1 := bC B2 1
   have f0 := bF B2 0
   have f1 := bF B2 1
   have B3 := bS (bS B2 0 (.int .i64 b.1)) 1 (.string b.2)
   have hE2 := (hE.setCell (a := ⟨w.heap.size + 1 + 1, 0, none⟩) (by simp; omega) (.int .i64 b.1)).setCell (a := ⟨w.heap.size + 1 + 1, 1, none⟩) (by simp; omega) (.string b.2)
   have e0 := bC B3 0
   have e1 := bC B3 1
   clear B1 B2 B3
   go_wp2_with (fail)
   (try simp only [Exit.inBlock, Exit.then])
   refine bodyPost_ret (v := valV (addV 3 a b)) (by simp [results, Tryz.results339, go_sem, e0, e1, addV]) rfl ?_
   exact ⟨rfl, hE2⟩
end K2
namespace KB2
open Go Go.RowKit
open KB
variable {α β : Type}
theorem cut3 {R : Rd α} {F : Nat → Prop} {w : World} {A : Option Addr} {c : Nat} {l : List α} (h : R.Sl F w A c l) {P : Program} {t e : TypeId} {bytes : Nat} (hE : El P t e R.sz bytes) (i j m n cn : Nat) (I J M : Int) (hij : i ≤ j) (hj : j ≤ l.length) (hm : j ≤ m) (hmc : m ≤ c) (hI : I = i) (hJ : J = j) (hM : M = m) (hn : j - i = n) (hcn : m - i = cn) :
   ∃ A', (∀ (kl kh km : IntKind) (W : World), (Instr.slice t (.slice A l.length c) (some (.int kl I)) (some (.int kh J)) (some (.int km M))).run P W = .ok (.slice A' n cn) W) ∧ R.Sl F w A' cn ((l.take j).drop i) := by
 subst hI hJ hM hn hcn
 have hc := h.le
 refine ⟨_, fun kl kh km W => ?_, h.sub (i := i) (j := j) (m := m) hij hj hm hmc⟩
 obtain ⟨hu, i', z, hi, hz, hsz, hb, hzs, hp⟩ := hE
 have hel : P.elem t = e := by unfold Program.elem; rw [hu]
 rw [run_slice_lhm W t A l.length c (by rw [hel]; exact hu) kl kh km i j m (by omega) (by omega) (by omega) (by omega)]
 simp [hel, sizeOf, typeInfo, hi, hsz, sliced]
theorem sl_C {R : Rd α} {hsz : 0 < R.sz} {F : Nat → Prop} {w : World} {A : Option Addr} {c : Nat} {l : List α} (h : R.Sl F w A c l) : (rdSl R hsz).C F w [.slice A l.length c] l := ⟨A, c, rfl, h⟩
theorem sl_Cn {R : Rd α} {hsz : 0 < R.sz} {F : Nat → Prop} {w : World} {A : Option Addr} {n c : Nat} {l : List α} (h : R.Sl F w A c l) (hn : n = l.length) : (rdSl R hsz).C F w [.slice A n c] l := by subst hn; exact ⟨A, c, rfl, h⟩
theorem Far {R : Rd α} (hsz : 0 < R.sz) {F : Nat → Prop} {w wr : World} {A : Option Addr} {c : Nat} {l : List α} {v : Value} (h : R.Sl F w A c l) (hE : Ext w wr) (hv : ∀ g, v.ownBlock = some g → w.heap.size ≤ g ∧ g < wr.heap.size) : R.Sl (Fv F v) wr A c l :=
 Rd.Sl.ext (h.narrow hsz (fun k hk hG => hG.elim id (fun hg => absurd (hv k hg).1 (by omega)))) hE
theorem far0 (R : Rd α) (hsz : 0 < R.sz) {F : Nat → Prop} {w : World} {A : Option Addr} {c : Nat} {l : List α} {v : Value} (h : R.Sl F w A c l) {p : Nat → Prop} (hv : ∀ g, v.ownBlock = some g → w.heap.size ≤ g ∧ p g) : R.Sl (Fv F v) w A c l :=
 h.narrow hsz (fun k hk hG => hG.elim id (fun hg => absurd (hv k hg).1 (by omega)))
theorem FvF {R : Rd α} {F : Nat → Prop} {B : Nat} {e : TypeId} {w : World} {v : Value} {l : List α} (h : R.Own F B e w v l) (hF : ∀ k, F k → k < w.heap.size) : ∀ k, Fv F v k → k < w.heap.size := fun k hk => hk.elim (hF k) (fun hg => (h.ge k hg).2)
theorem FExt {F : Nat → Prop} {w w' : World} (hF : ∀ k, F k → k < w.heap.size) (h : Ext w w') : ∀ k, F k → k < w'.heap.size := fun k hk => Nat.lt_of_lt_of_le (hF k hk) h.size
theorem step_pushAt {P : Program} {ops : Array Oper} {o : Oper} {a : Act} {Q : Exit → Act → World → Prop} {w : World} {K : Act → World → Prop} {E : Prop} (hgd : o.guard = none) (s x : Operand) (t : TypeId) (ho : o.op = .call { callee := .builtin .append, args := #[s, x], argTypes := #[t, t] })
   (R : Rd α) {F : Nat → Prop} {B : Nat} {e : TypeId} {bytes : Nat} (hE : El P t e R.sz bytes) {v : Value} {l : List α} (hs : a.eval s = v) (hown : R.Own F B e w v l)
   {g : Nat} {c : Nat} (hx : a.eval x = .slice (some ⟨g, 0, none⟩) 1 c) {cs : Array Value} {te : TypeId} {fr : Nat × Nat} (hc : w.heap[g]? = some (.cells cs te fr)) {y : α} (hy : R.C (Fv F v) w cs.toList y)
   (hlen : (l.length + 1) * bytes ≤ 140737488355328) (hl2 : l.length + 1 ≤ maxLen) (hB : B ≤ w.heap.size)
   (h : ∀ v' w', R.Own F B e w' v' (l ++ [y]) → w.grownBy w' v.ownBlock → (v'.ownBlock = v.ownBlock ∨ v'.ownBlock = some w.heap.size) → K (a.put o.dst v') w') : if Region.wanted o (yielded ops a.tmps) = true then Oper.wp P o a w K Q else E := by
 have hwt : Region.wanted o (yielded ops a.tmps) = true := by simp [Region.wanted, hgd]
 rw [if_pos hwt]
 have hl := R.len hy
 obtain ⟨hu, i, z, hi, hz, hsz, hb, hzs, hp⟩ := hE
 obtain ⟨xs, hro, hC⟩ := hown
 obtain ⟨v', w', hr, h2, h3, _, h5⟩ := run_append_own_at (P := P) w B t o.type e i z R.sz bytes hu hi hz hsz hb hzs hp v l.length xs hro ⟨g, 0, none⟩ 1 c cs.toList (by omega) (fun j u hj => by rw [Addr.add_lit, Nat.zero_add, cell_of_row w g j cs te fr hc]; simpa using hj) (R.one hy) hl2 hlen hB
 unfold Oper.wp execOp
 simp only [ho, resolve, invoke, builtin, Sem.run_bind, Sem.run_pure, Result.andThen_ok, List.map_toArray, List.map_cons, List.map_nil, hs, hx, hr]
 refine h v' w' (Rd.Own.more (m := [y]) hC hro.1 (fun k y' hk => ?_) (by simp [hl]) h2 h3 h5) h3 h5
 match k, hk with
 | 0, hk => simp at hk; subst hk; rw [Nat.zero_mul, List.drop_zero, List.take_of_length_le (Nat.le_of_eq hl)]; exact hy
section
variable {P : Program} {ops : Array Oper} {rest : List Oper} {o : Oper} {a : Act} {Q : Exit → Act → World → Prop} {w : World}
def At' (w : World) (v v' : Value) : Prop := v'.ownBlock = v.ownBlock ∨ v'.ownBlock = some w.heap.size
theorem wpList_moreAt (hgd : o.guard = none) (s x : Operand) (t : TypeId) (ho : o.op = .call { callee := .builtin .append, args := #[s, x], argTypes := #[t, t] })
   (R : Rd α) {F : Nat → Prop} {B : Nat} {e : TypeId} {bytes : Nat} (hE : El P t e R.sz bytes) {v : Value} {l m : List α} (hs : a.eval s = v) (hown : R.Own F B e w v l)
   {ad : Addr} {c : Nat} (hx : a.eval x = .slice (some ad) m.length c) {news : List Value} (hn : news.length = m.length * R.sz) (hc : ∀ j u, news[j]? = some u → w.cell? (ad.add j) = some u)
   (hm : ∀ k y, m[k]? = some y → R.C (Fv F v) w ((news.drop (k * R.sz)).take R.sz) y) (h1 : ∀ u ∈ news, u.oneCell' = true)
   (hlen : l.length + m.length ≤ maxLen) (hby : (l.length + m.length) * bytes ≤ 140737488355328) (hB : B ≤ w.heap.size)
   (h : ∀ v' w', R.Own F B e w' v' (l ++ m) → w.grownBy w' v.ownBlock → At' w v v' → wpList P ops Q rest (a.put o.dst v') w') : wpList P ops Q (o :: rest) a w := by
 obtain ⟨hu, i, z, hi, hz, hsz, hb, hzs, hp⟩ := hE
 obtain ⟨xs, hro, hC⟩ := hown
 obtain ⟨v', w', hr, h2, h3, _, h5⟩ := run_append_own_at (P := P) w B t o.type e i z R.sz bytes hu hi hz hsz hb hzs hp v l.length xs hro ad m.length c news hn hc h1 hlen hby hB
 refine wpList_plain hgd fun K hK => ?_
 unfold Oper.wp execOp
 simp only [ho, resolve, invoke, builtin, Sem.run_bind, Sem.run_pure, Result.andThen_ok, List.map_toArray, List.map_cons, List.map_nil, hs, hx, hr]
 exact hK _ _ (h v' w' (Rd.Own.more hC hro.1 hm hn h2 h3 h5) h3 h5)
theorem wpList_pushAt (hgd : o.guard = none) (s x : Operand) (t : TypeId) (ho : o.op = .call { callee := .builtin .append, args := #[s, x], argTypes := #[t, t] })
   (R : Rd α) {F : Nat → Prop} {B : Nat} {e : TypeId} {bytes : Nat} (hE : El P t e R.sz bytes) {v : Value} {l : List α} (hs : a.eval s = v) (hown : R.Own F B e w v l)
   {g : Nat} {c : Nat} (hx : a.eval x = .slice (some ⟨g, 0, none⟩) 1 c) {cs : Array Value} {te : TypeId} {fr : Nat × Nat} (hc : w.heap[g]? = some (.cells cs te fr)) {y : α} (hy : R.C (Fv F v) w cs.toList y)
   (hlen : (l.length + 1) * bytes ≤ 140737488355328) (hl2 : l.length + 1 ≤ maxLen) (hB : B ≤ w.heap.size)
   (h : ∀ v' w', R.Own F B e w' v' (l ++ [y]) → w.grownBy w' v.ownBlock → At' w v v' → wpList P ops Q rest (a.put o.dst v') w') : wpList P ops Q (o :: rest) a w := by
 have hl := R.len hy
 refine wpList_moreAt hgd s x t ho R hE (m := [y]) hs hown hx (news := cs.toList) (by simp [hl]) (fun j u hj => ?_) (fun k y' hk => ?_) (R.one hy) hl2 hlen hB h
 · rw [Addr.add_lit, Nat.zero_add, cell_of_row w g j cs te fr hc]
   simpa using hj
 · match k, hk with
   | 0, hk => simp at hk; subst hk; rw [Nat.zero_mul, List.drop_zero, List.take_of_length_le (Nat.le_of_eq hl)]; exact hy
theorem wpList_appAt (hgd : o.guard = none) (s x : Operand) (t : TypeId) (ho : o.op = .call { callee := .builtin .append, args := #[s, x], argTypes := #[t, t] })
   (R : Rd α) {F : Nat → Prop} {B : Nat} {e : TypeId} {bytes : Nat} (hE : El P t e R.sz bytes) {v : Value} {l m : List α} (hs : a.eval s = v) (hown : R.Own F B e w v l)
   {A : Option Addr} {c n : Nat} (hx : a.eval x = .slice A n c) (hnn : n = m.length) (hm : R.Sl (Fv F v) w A c m)
   (hlen : (l.length + m.length) * bytes ≤ 140737488355328) (hl2 : l.length + m.length ≤ maxLen) (hB : B ≤ w.heap.size)
   (h : ∀ v' w', R.Own F B e w' v' (l ++ m) → w.grownBy w' v.ownBlock → At' w v v' → wpList P ops Q rest (a.put o.dst v') w') : wpList P ops Q (o :: rest) a w := by
 subst hnn
 rcases Nat.eq_zero_or_pos m.length with h0 | h0
 · obtain rfl : m = [] := List.eq_nil_of_length_eq_zero h0
   rcases A with _ | ad
   · obtain rfl : c = 0 := hm.nil_ rfl
     obtain ⟨hu, i, z, hi, hz, hsz, hb, hzs, hp⟩ := hE
     obtain ⟨xs, hro, hC⟩ := hown
     have hrun := run_append_owned_none (P := P) (w := w) B t o.type e i R.sz hu hi v l.length xs hro
     refine wpList_plain hgd fun K hK => ?_
     unfold Oper.wp
     simp [execOp, ho, resolve, invoke, builtin, hs, hx, hrun, Result.andThen]
     exact hK _ _ (h v w (by rw [List.append_nil]; exact ⟨xs, hro, hC⟩) (World.grownBy.refl _ _) (.inl rfl))
   · exact wpList_moreAt hgd s x t ho R hE (m := []) hs hown hx (news := []) (by simp) (by simp) (by simp) (by simp) hl2 hlen hB h
 · obtain ⟨b, o', rfl, _⟩ := hm.get h0
   obtain ⟨cs, h1, h2, h3, h4⟩ := hm.cells
   exact wpList_moreAt hgd s x t ho R hE hs hown hx h1 (fun j u hj => by rw [Addr.add_lit]; exact h2 j u hj) (fun k y hk => (h3 k y hk).2) h4 hl2 hlen hB h
end
def Apart (v u : Value) : Prop := ∀ k, v.ownBlock = some k → u.ownBlock ≠ some k
theorem Apart.symm {v u : Value} (h : Apart v u) : Apart u v := fun k h1 h2 => h k h2 h1
theorem Apart.grow {v u v' : Value} {w : World} (h : Apart v u) (hat : At' w v v') (hu : ∀ k, u.ownBlock = some k → k < w.heap.size) : Apart v' u := fun k hk hc => by
 rcases hat with e | e
 · exact h k (by rw [← e]; exact hk) hc
 · rw [e] at hk; cases hk
   exact absurd (hu _ hc) (by omega)
end KB2
namespace KB
open Go Go.RowKit
variable {α β : Type}
def Rd.Free (R : Rd α) : Prop := ∀ F G w w' cs x, R.C F w cs x → R.C G w' cs x
theorem Rd.Own.free {R : Rd α} (hR : R.Free) {F G : Nat → Prop} {B : Nat} {e : TypeId} {w w' : World} {v : Value} {l : List α} (h : R.Own F B e w v l) (hk : ∀ g, v.ownBlock = some g → w'.heap[g]? = w.heap[g]?) : R.Own G B e w' v l := by
 obtain ⟨xs, ho, hC⟩ := h
 refine ⟨xs, ⟨ho.1, ?_⟩, fun j x hj => hR _ _ _ _ _ _ (hC j x hj)⟩
 rcases ho.2 with h1 | ⟨g, cap, cur, rfl, hb, hg, rest⟩
 · exact .inl h1
 · exact .inr ⟨g, cap, cur, rfl, hb, (hk g rfl).trans hg, rest⟩
theorem Rd.Own.one {R : Rd α} {F : Nat → Prop} {B : Nat} {e : TypeId} {w : World} {v : Value} {l : List α} (h : R.Own F B e w v l) : v.oneCell' = true := by
 obtain ⟨xs, ho, hC⟩ := h
 rcases ho.2 with ⟨rfl, _⟩ | ⟨g, cap, cur, rfl, _⟩ <;> rfl
theorem lit2 {R : Rd α} {hsz : 0 < R.sz} {F : Nat → Prop} {w : World} {g : Nat} {T : TypeId} {fr : Nat × Nat} {A1 A2 : Option Addr} {c1 c2 n1 n2 : Nat} {l1 l2 : List α}
   (h : w.heap[g]? = some (.cells #[.slice A1 n1 c1, .slice A2 n2 c2] T fr)) (hF : ¬ F g) (h1 : R.Sl F w A1 c1 l1) (e1 : n1 = l1.length) (h2 : R.Sl F w A2 c2 l2) (e2 : n2 = l2.length) : (rdSl R hsz).Sl F w (some ⟨g, 0, none⟩) 2 [l1, l2] := by
 subst e1 e2
 refine lit_one rfl h hF rfl (by simp [maxLen]) (fun k x hk => ?_)
 match k, hk with
 | 0, hk => cases hk; exact ⟨_, rfl, _, _, rfl, h1⟩
 | 1, hk => cases hk; exact ⟨_, rfl, _, _, rfl, h2⟩
 | k + 2, hk => simp at hk
theorem lit4 {R : Rd α} {hsz : 0 < R.sz} {F : Nat → Prop} {w : World} {g : Nat} {T : TypeId} {fr : Nat × Nat} {A1 A2 A3 A4 : Option Addr} {c1 c2 c3 c4 n1 n2 n3 n4 : Nat} {l1 l2 l3 l4 : List α}
   (h : w.heap[g]? = some (.cells #[.slice A1 n1 c1, .slice A2 n2 c2, .slice A3 n3 c3, .slice A4 n4 c4] T fr)) (hF : ¬ F g) (h1 : R.Sl F w A1 c1 l1) (e1 : n1 = l1.length) (h2 : R.Sl F w A2 c2 l2) (e2 : n2 = l2.length) (h3 : R.Sl F w A3 c3 l3) (e3 : n3 = l3.length) (h4 : R.Sl F w A4 c4 l4) (e4 : n4 = l4.length) : (rdSl R hsz).Sl F w (some ⟨g, 0, none⟩) 4 [l1, l2, l3, l4] := by
 subst e1 e2 e3 e4
 refine lit_one rfl h hF rfl (by simp [maxLen]) (fun k x hk => ?_)
 match k, hk with
 | 0, hk => cases hk; exact ⟨_, rfl, _, _, rfl, h1⟩
 | 1, hk => cases hk; exact ⟨_, rfl, _, _, rfl, h2⟩
 | 2, hk => cases hk; exact ⟨_, rfl, _, _, rfl, h3⟩
 | 3, hk => cases hk; exact ⟨_, rfl, _, _, rfl, h4⟩
 | k + 4, hk => simp at hk
theorem intFree (k : IntKind) : (rdInt k).Free := fun _ _ _ _ _ _ h => h
theorem valFree : rdVal.Free := fun _ _ _ _ _ _ h => h
def rdRaw : Rd Value where
 sz := 1
 C := fun _ _ cs v => cs = [v] ∧ v.oneCell' = true
 len := by rintro _ _ _ _ ⟨rfl, _⟩; rfl
 keep := fun _ h => h
 narrow := fun _ h => h
 one := by rintro _ _ _ _ ⟨rfl, h⟩ u hu; simp at hu; subst hu; exact h
theorem rawFree : rdRaw.Free := fun _ _ _ _ _ _ h => h
structure Grid (B : Nat) (t e : TypeId) (w : World) (g : Nat) (vs : List Value) (Ls : List Row) : Prop where
 hb : B ≤ g
 arr : rdRaw.Own (fun _ => False) B t w (.slice (some ⟨g, 0, none⟩) vs.length vs.length) vs
 len : Ls.length = vs.length
 own : ∀ (r : Nat) v, vs[r]? = some v → rdVal.Own (fun _ => False) B e w v (Ls.getD r [])
 ne : ∀ (r : Nat) v, vs[r]? = some v → v.ownBlock ≠ some g
 dif : ∀ (r q : Nat) v u k, r ≠ q → vs[r]? = some v → vs[q]? = some u → v.ownBlock = some k → u.ownBlock ≠ some k
theorem Grid.ext {B : Nat} {t e : TypeId} {w w' : World} {g : Nat} {vs : List Value} {Ls : List Row} (h : Grid B t e w g vs Ls) (k : Ext w w') : Grid B t e w' g vs Ls :=
 ⟨h.hb, h.arr.ext k, h.len, fun r v hv => (h.own r v hv).ext k, h.ne, h.dif⟩
theorem Grid.set {B : Nat} {t e : TypeId} {w w' : World} {g : Nat} {vs : List Value} {Ls : List Row} (h : Grid B t e w g vs Ls) {i : Nat} {v v' : Value} {L : Row} (hv : vs[i]? = some v) (hg : w.grownBy w' v.ownBlock) (hat : v'.ownBlock = v.ownBlock ∨ v'.ownBlock = some w.heap.size)
   {F : Nat → Prop} (ho : rdVal.Own F B e w' v' L) (h1 : v'.oneCell' = true) : Grid B t e (w'.setCell ⟨g, i, none⟩ v') g (vs.set i v') (Ls.set i L) := by
 have hi := (List.getElem?_eq_some_iff.1 hv).1
 have hgs : g < w.heap.size := (h.arr.ge g rfl).2
 have hne := h.ne i v hv
 have hne' : v'.ownBlock ≠ some g := by
   rcases hat with e | e
   · rw [e]; exact hne
   · rw [e]; intro e; simp at e; omega
 have hblk : ∀ k, k < w.heap.size → v.ownBlock ≠ some k → k ≠ g → (w'.setCell ⟨g, i, none⟩ v').heap[k]? = w.heap[k]? := fun k hk hn hkg => (Below.heap_setCell _ _ _ _ hkg).trans (hg.block k hk (fun e => hn e.symm))
 have a1 : rdRaw.Own (fun _ => False) B t w' (.slice (some ⟨g, 0, none⟩) vs.length vs.length) vs := h.arr.free rawFree (fun k hk => by cases hk; exact hg.block g hgs (fun e => hne e.symm))
 refine ⟨h.hb, ?_, by rw [List.length_set, List.length_set]; exact h.len, fun r u hu => ?_, fun r u hu => ?_, fun r q u x k hrq hu hx hk => ?_⟩
 · rw [List.length_set]
   exact Rd.Own.set1 rfl a1 hi ⟨rfl, h1⟩
 · by_cases hri : i = r
   · subst hri
     rw [List.getElem?_set_self hi] at hu
     cases hu
     rw [List.getD_eq_getElem?_getD, List.getElem?_set_self (by rw [h.len]; exact hi)]
     exact ho.free valFree (fun k hk => Below.heap_setCell _ _ _ _ (fun e => hne' (by rw [hk, e])))
   · rw [List.getElem?_set_ne hri] at hu
     rw [List.getD_eq_getElem?_getD, List.getElem?_set_ne hri, ← List.getD_eq_getElem?_getD]
     have hr := h.own r u hu
     exact hr.free valFree (fun k hk => hblk k (hr.ge k hk).2 (fun e => h.dif i r v u k hri hv hu e hk) (fun e => h.ne r u hu (by rw [hk, e])))
 · by_cases hri : i = r
   · subst hri
     rw [List.getElem?_set_self hi] at hu
     cases hu; exact hne'
   · rw [List.getElem?_set_ne hri] at hu
     exact h.ne r u hu
 · by_cases hri : i = r
   · subst hri
     rw [List.getElem?_set_self hi] at hu
     rw [List.getElem?_set_ne hrq] at hx
     cases hu
     rcases hat with e | e
     · exact h.dif i q v x k hrq hv hx (by rw [← e]; exact hk)
     · rw [e] at hk; cases hk
       exact fun hc => absurd ((h.own q x hx).ge _ hc).2 (by omega)
   · rw [List.getElem?_set_ne hri] at hu
     by_cases hqi : i = q
     · subst hqi
       rw [List.getElem?_set_self hi] at hx
       cases hx
       rcases hat with e | e
       · rw [e]; exact h.dif r i u v k hrq hu hv hk
       · rw [e]; intro hc; cases hc
         exact absurd ((h.own r u hu).ge _ hk).2 (by omega)
     · rw [List.getElem?_set_ne hqi] at hx
       exact h.dif r q u x k hrq hu hx hk
theorem Grid.shut {B : Nat} {t e : TypeId} {w : World} {g : Nat} {vs : List Value} {Ls : List Row} (h : Grid B t e w g vs Ls) {F : Nat → Prop} (hF : ∀ k, F k → k < B) (hm : vs.length ≤ maxLen) {n : Nat} (hn : n = vs.length) : rdRow.Sl F w (some ⟨g, 0, none⟩) n Ls := by
 subst hn
 refine ⟨by rw [h.len]; exact Nat.le_refl _, hm, (fun h => by cases h), fun k L hk => ?_⟩
 have hkl := (List.getElem?_eq_some_iff.1 hk).1
 have hkv : k < vs.length := by rw [← h.len]; exact hkl
 obtain ⟨u, hu, _, hC, _⟩ := Rd.Own.get1 rfl h.arr hkv
 simp only [List.cons.injEq, and_true] at hC
 subst hC
 have ho := h.own k _ (List.getElem?_eq_getElem hkv)
 rw [List.getD_eq_getElem?_getD, hk] at ho
 obtain ⟨A, c, hv, hs⟩ := (ho.free (G := F) valFree (fun _ _ => rfl)).shut hF
 refine ⟨g, 0, rfl, fun hf => by have := hF g hf; have := h.hb; omega, [vs[k]], ⟨A, c, by rw [hv]; rfl, hs⟩, fun j x hj => ?_⟩
 match j, hj with
 | 0, hj =>
   simp only [List.getElem?_cons_zero, Option.some.injEq] at hj
   subst hj
   rw [show k * rdRow.sz = k from Nat.mul_one k, Nat.zero_add, Nat.add_zero]
   exact hu
end KB
namespace KB
open Go Go.RowKit KB2
theorem Rd.Own.other {α : Type} {R : Rd α} (hR : R.Free) {F : Nat → Prop} {B : Nat} {e : TypeId} {w w' : World} {u v : Value} {l : List α} (h : R.Own F B e w u l) (hg : w.grownBy w' v.ownBlock) (ha : Apart v u) : R.Own F B e w' u l :=
 h.free hR (fun k hk => hg.block k (h.ge k hk).2 (fun e => ha k e.symm hk))
end KB
namespace KB3
open Go Go.RowKit
open KB KB2
variable {α : Type}
theorem step_appAt {P : Program} {ops : Array Oper} {o : Oper} {a : Act} {Q : Exit → Act → World → Prop} {w : World} {K : Act → World → Prop} {E : Prop} (hgd : o.guard = none) (s x : Operand) (t : TypeId) (ho : o.op = .call { callee := .builtin .append, args := #[s, x], argTypes := #[t, t] })
   (R : Rd α) {F : Nat → Prop} {B : Nat} {e : TypeId} {bytes : Nat} (hE : El P t e R.sz bytes) {v : Value} {l m : List α} (hs : a.eval s = v) (hown : R.Own F B e w v l)
   {A : Option Addr} {c n : Nat} (hx : a.eval x = .slice A n c) (hnn : n = m.length) (h0 : 0 < m.length) (hm : R.Sl (Fv F v) w A c m)
   (hby : (l.length + m.length) * bytes ≤ 140737488355328) (hlen : l.length + m.length ≤ maxLen) (hB : B ≤ w.heap.size)
   (h : ∀ v' w', R.Own F B e w' v' (l ++ m) → w.grownBy w' v.ownBlock → At' w v v' → K (a.put o.dst v') w') : if Region.wanted o (yielded ops a.tmps) = true then Oper.wp P o a w K Q else E := by
 subst hnn
 have hwt : Region.wanted o (yielded ops a.tmps) = true := by simp [Region.wanted, hgd]
 rw [if_pos hwt]
 obtain ⟨b, o', rfl, _⟩ := hm.get h0
 obtain ⟨cs, h1, h2, h3, h4⟩ := hm.cells
 obtain ⟨hu, i, z, hi, hz, hsz, hb, hzs, hp⟩ := hE
 obtain ⟨xs, hro, hC⟩ := hown
 obtain ⟨v', w', hr, q2, q3, _, q5⟩ := run_append_own_at (P := P) w B t o.type e i z R.sz bytes hu hi hz hsz hb hzs hp v l.length xs hro ⟨b, o', none⟩ m.length c cs h1 (fun j u hj => by rw [Addr.add_lit]; exact h2 j u hj) h4 hlen hby hB
 unfold Oper.wp execOp
 simp only [ho, resolve, invoke, builtin, Sem.run_bind, Sem.run_pure, Result.andThen_ok, List.map_toArray, List.map_cons, List.map_nil, hs, hx, hr]
 exact h v' w' (Rd.Own.more hC hro.1 (fun k y hk => (h3 k y hk).2) h1 q2 q3 q5) q3 q5
end KB3
namespace KB
open Go Go.RowKit
variable {w : World} {g : Nat} {T : TypeId}
theorem kS1 (w : World) (g j : Nat) (v : Value) : Keep (fun k => k = g) w (w.setCell ⟨g, j, none⟩ v) := Keep.setCell _ _ _ rfl
theorem put4 {a0 a1 a2 a3 : Value} (h : w.heap[g]? = some (.cells #[a0, a1, a2, a3] T (0, 0))) (b0 b1 b2 b3 : Value) :
   ((((w.setCell ⟨g, 0, none⟩ b0).setCell ⟨g, 1, none⟩ b1).setCell ⟨g, 2, none⟩ b2).setCell ⟨g, 3, none⟩ b3).heap[g]? = some (.cells #[b0, b1, b2, b3] T (0, 0)) ∧
   Keep (fun k => k = g) w ((((w.setCell ⟨g, 0, none⟩ b0).setCell ⟨g, 1, none⟩ b1).setCell ⟨g, 2, none⟩ b2).setCell ⟨g, 3, none⟩ b3) := by
 have h0 : (w.setCell ⟨g, 0, none⟩ b0).heap[g]? = some (.cells #[b0, a1, a2, a3] T (0, 0)) := bS h 0 b0
 have h1 : ((w.setCell ⟨g, 0, none⟩ b0).setCell ⟨g, 1, none⟩ b1).heap[g]? = some (.cells #[b0, b1, a2, a3] T (0, 0)) := bS h0 1 b1
 have h2 : (((w.setCell ⟨g, 0, none⟩ b0).setCell ⟨g, 1, none⟩ b1).setCell ⟨g, 2, none⟩ b2).heap[g]? = some (.cells #[b0, b1, b2, a3] T (0, 0)) := bS h1 2 b2
 have h3 : ((((w.setCell ⟨g, 0, none⟩ b0).setCell ⟨g, 1, none⟩ b1).setCell ⟨g, 2, none⟩ b2).setCell ⟨g, 3, none⟩ b3).heap[g]? = some (.cells #[b0, b1, b2, b3] T (0, 0)) := bS h2 3 b3
 have k0 := kS1 w g 0 b0
 have k1 := k0.trans (kS1 (w.setCell ⟨g, 0, none⟩ b0) g 1 b1)
 have k2 := k1.trans (kS1 ((w.setCell ⟨g, 0, none⟩ b0).setCell ⟨g, 1, none⟩ b1) g 2 b2)
 have k3 := k2.trans (kS1 (((w.setCell ⟨g, 0, none⟩ b0).setCell ⟨g, 1, none⟩ b1).setCell ⟨g, 2, none⟩ b2) g 3 b3)
 exact ⟨h3, k3⟩
theorem put6 {a0 a1 a2 a3 a4 a5 : Value} (h : w.heap[g]? = some (.cells #[a0, a1, a2, a3, a4, a5] T (0, 0))) (b0 b1 b2 b3 b4 b5 : Value) :
   ((((((w.setCell ⟨g, 0, none⟩ b0).setCell ⟨g, 1, none⟩ b1).setCell ⟨g, 2, none⟩ b2).setCell ⟨g, 3, none⟩ b3).setCell ⟨g, 4, none⟩ b4).setCell ⟨g, 5, none⟩ b5).heap[g]? = some (.cells #[b0, b1, b2, b3, b4, b5] T (0, 0)) ∧
   Keep (fun k => k = g) w ((((((w.setCell ⟨g, 0, none⟩ b0).setCell ⟨g, 1, none⟩ b1).setCell ⟨g, 2, none⟩ b2).setCell ⟨g, 3, none⟩ b3).setCell ⟨g, 4, none⟩ b4).setCell ⟨g, 5, none⟩ b5) := by
 have h0 : (w.setCell ⟨g, 0, none⟩ b0).heap[g]? = some (.cells #[b0, a1, a2, a3, a4, a5] T (0, 0)) := bS h 0 b0
 have h1 : ((w.setCell ⟨g, 0, none⟩ b0).setCell ⟨g, 1, none⟩ b1).heap[g]? = some (.cells #[b0, b1, a2, a3, a4, a5] T (0, 0)) := bS h0 1 b1
 have h2 : (((w.setCell ⟨g, 0, none⟩ b0).setCell ⟨g, 1, none⟩ b1).setCell ⟨g, 2, none⟩ b2).heap[g]? = some (.cells #[b0, b1, b2, a3, a4, a5] T (0, 0)) := bS h1 2 b2
 have h3 : ((((w.setCell ⟨g, 0, none⟩ b0).setCell ⟨g, 1, none⟩ b1).setCell ⟨g, 2, none⟩ b2).setCell ⟨g, 3, none⟩ b3).heap[g]? = some (.cells #[b0, b1, b2, b3, a4, a5] T (0, 0)) := bS h2 3 b3
 have h4 : (((((w.setCell ⟨g, 0, none⟩ b0).setCell ⟨g, 1, none⟩ b1).setCell ⟨g, 2, none⟩ b2).setCell ⟨g, 3, none⟩ b3).setCell ⟨g, 4, none⟩ b4).heap[g]? = some (.cells #[b0, b1, b2, b3, b4, a5] T (0, 0)) := bS h3 4 b4
 have h5 : ((((((w.setCell ⟨g, 0, none⟩ b0).setCell ⟨g, 1, none⟩ b1).setCell ⟨g, 2, none⟩ b2).setCell ⟨g, 3, none⟩ b3).setCell ⟨g, 4, none⟩ b4).setCell ⟨g, 5, none⟩ b5).heap[g]? = some (.cells #[b0, b1, b2, b3, b4, b5] T (0, 0)) := bS h4 5 b5
 have k0 := kS1 w g 0 b0
 have k1 := k0.trans (kS1 (w.setCell ⟨g, 0, none⟩ b0) g 1 b1)
 have k2 := k1.trans (kS1 ((w.setCell ⟨g, 0, none⟩ b0).setCell ⟨g, 1, none⟩ b1) g 2 b2)
 have k3 := k2.trans (kS1 (((w.setCell ⟨g, 0, none⟩ b0).setCell ⟨g, 1, none⟩ b1).setCell ⟨g, 2, none⟩ b2) g 3 b3)
 have k4 := k3.trans (kS1 ((((w.setCell ⟨g, 0, none⟩ b0).setCell ⟨g, 1, none⟩ b1).setCell ⟨g, 2, none⟩ b2).setCell ⟨g, 3, none⟩ b3) g 4 b4)
 have k5 := k4.trans (kS1 (((((w.setCell ⟨g, 0, none⟩ b0).setCell ⟨g, 1, none⟩ b1).setCell ⟨g, 2, none⟩ b2).setCell ⟨g, 3, none⟩ b3).setCell ⟨g, 4, none⟩ b4) g 5 b5)
 exact ⟨h5, k5⟩
theorem put7 {a0 a1 a2 a3 a4 a5 a6 : Value} (h : w.heap[g]? = some (.cells #[a0, a1, a2, a3, a4, a5, a6] T (0, 0))) (b0 b1 b2 b3 b4 b5 b6 : Value) :
   (((((((w.setCell ⟨g, 0, none⟩ b0).setCell ⟨g, 1, none⟩ b1).setCell ⟨g, 2, none⟩ b2).setCell ⟨g, 3, none⟩ b3).setCell ⟨g, 4, none⟩ b4).setCell ⟨g, 5, none⟩ b5).setCell ⟨g, 6, none⟩ b6).heap[g]? = some (.cells #[b0, b1, b2, b3, b4, b5, b6] T (0, 0)) ∧
   Keep (fun k => k = g) w (((((((w.setCell ⟨g, 0, none⟩ b0).setCell ⟨g, 1, none⟩ b1).setCell ⟨g, 2, none⟩ b2).setCell ⟨g, 3, none⟩ b3).setCell ⟨g, 4, none⟩ b4).setCell ⟨g, 5, none⟩ b5).setCell ⟨g, 6, none⟩ b6) := by
 have h0 : (w.setCell ⟨g, 0, none⟩ b0).heap[g]? = some (.cells #[b0, a1, a2, a3, a4, a5, a6] T (0, 0)) := bS h 0 b0
 have h1 : ((w.setCell ⟨g, 0, none⟩ b0).setCell ⟨g, 1, none⟩ b1).heap[g]? = some (.cells #[b0, b1, a2, a3, a4, a5, a6] T (0, 0)) := bS h0 1 b1
 have h2 : (((w.setCell ⟨g, 0, none⟩ b0).setCell ⟨g, 1, none⟩ b1).setCell ⟨g, 2, none⟩ b2).heap[g]? = some (.cells #[b0, b1, b2, a3, a4, a5, a6] T (0, 0)) := bS h1 2 b2
 have h3 : ((((w.setCell ⟨g, 0, none⟩ b0).setCell ⟨g, 1, none⟩ b1).setCell ⟨g, 2, none⟩ b2).setCell ⟨g, 3, none⟩ b3).heap[g]? = some (.cells #[b0, b1, b2, b3, a4, a5, a6] T (0, 0)) := bS h2 3 b3
 have h4 : (((((w.setCell ⟨g, 0, none⟩ b0).setCell ⟨g, 1, none⟩ b1).setCell ⟨g, 2, none⟩ b2).setCell ⟨g, 3, none⟩ b3).setCell ⟨g, 4, none⟩ b4).heap[g]? = some (.cells #[b0, b1, b2, b3, b4, a5, a6] T (0, 0)) := bS h3 4 b4
 have h5 : ((((((w.setCell ⟨g, 0, none⟩ b0).setCell ⟨g, 1, none⟩ b1).setCell ⟨g, 2, none⟩ b2).setCell ⟨g, 3, none⟩ b3).setCell ⟨g, 4, none⟩ b4).setCell ⟨g, 5, none⟩ b5).heap[g]? = some (.cells #[b0, b1, b2, b3, b4, b5, a6] T (0, 0)) := bS h4 5 b5
 have h6 : (((((((w.setCell ⟨g, 0, none⟩ b0).setCell ⟨g, 1, none⟩ b1).setCell ⟨g, 2, none⟩ b2).setCell ⟨g, 3, none⟩ b3).setCell ⟨g, 4, none⟩ b4).setCell ⟨g, 5, none⟩ b5).setCell ⟨g, 6, none⟩ b6).heap[g]? = some (.cells #[b0, b1, b2, b3, b4, b5, b6] T (0, 0)) := bS h5 6 b6
 have k0 := kS1 w g 0 b0
 have k1 := k0.trans (kS1 (w.setCell ⟨g, 0, none⟩ b0) g 1 b1)
 have k2 := k1.trans (kS1 ((w.setCell ⟨g, 0, none⟩ b0).setCell ⟨g, 1, none⟩ b1) g 2 b2)
 have k3 := k2.trans (kS1 (((w.setCell ⟨g, 0, none⟩ b0).setCell ⟨g, 1, none⟩ b1).setCell ⟨g, 2, none⟩ b2) g 3 b3)
 have k4 := k3.trans (kS1 ((((w.setCell ⟨g, 0, none⟩ b0).setCell ⟨g, 1, none⟩ b1).setCell ⟨g, 2, none⟩ b2).setCell ⟨g, 3, none⟩ b3) g 4 b4)
 have k5 := k4.trans (kS1 (((((w.setCell ⟨g, 0, none⟩ b0).setCell ⟨g, 1, none⟩ b1).setCell ⟨g, 2, none⟩ b2).setCell ⟨g, 3, none⟩ b3).setCell ⟨g, 4, none⟩ b4) g 5 b5)
 have k6 := k5.trans (kS1 ((((((w.setCell ⟨g, 0, none⟩ b0).setCell ⟨g, 1, none⟩ b1).setCell ⟨g, 2, none⟩ b2).setCell ⟨g, 3, none⟩ b3).setCell ⟨g, 4, none⟩ b4).setCell ⟨g, 5, none⟩ b5) g 6 b6)
 exact ⟨h6, k6⟩
theorem Keep.extNew {F : Nat → Prop} {w W W' : World} (h : Ext w W) (k : Keep F W W') (hF : ∀ i, F i → w.heap.size ≤ i) : Ext w W' := h.keepNew k hF
theorem Keep.or {F G : Nat → Prop} {a b c : World} (h : Keep F a b) (k : Keep G b c) : Keep (fun i => F i ∨ G i) a c :=
 (h.mono (fun _ _ h => .inl h)).trans (k.mono (fun _ _ h => .inr h))
theorem Keep.pre {F : Nat → Prop} {a b c : World} (k : Keep F b c) (h : Ext a b) : Keep F a c := (h.keep F).trans k
theorem Keep.post {F : Nat → Prop} {a b c : World} (k : Keep F a b) (h : Ext b c) : Keep F a c := k.trans (h.keep F)
theorem cell_get {w : World} {a : Addr} {v : Value} (h : w.cell? a = some v) : (w.cell? a).getD undef = v := by rw [h]; rfl
theorem own_set {α : Type} {R : Rd α} (hR : R.Free) {F : Nat → Prop} {B g j : Nat} {e : TypeId} {w : World} {v u : Value} {l : List α} (h : R.Own F B e w v l) (hg : g < B) : R.Own F B e (w.setCell ⟨g, j, none⟩ u) v l :=
 h.free hR (fun k hk => Below.heap_setCell _ _ _ _ (fun e => by have := (h.ge k hk).1; simp at e; omega))
end KB
namespace K88
open Go Go.RowKit KB K1 K2
def Says (w : World) (t : Int) (s : ByteArray) (n : Int) : Prop :=
 I64 n ∧ s ≠ emp ∧
 (t = 1 ∧ (∀ W, Ext w W → Calls Tryz.prog 269 #[.string s, .int .i64 10, .int .i64 64] W fun e w' => e = .returned (.tuple #[.int .i64 n, .nilIface]) ∧ Ext W w') ∧
   (∀ W, Ext w W → Calls Tryz.prog 334 #[.int .i64 n, .int .i64 10] W fun e w' => e = .returned (.string s) ∧ Ext W w') ∨
  t = 2 ∧ ∃ u : Int, IntKind.u64.wrap n = u ∧ IntKind.i64.wrap u = n ∧ (∀ W, Ext w W → Calls Tryz.prog 270 #[.string s, .int .i64 10, .int .i64 64] W fun e w' => e = .returned (.tuple #[.int .u64 u, .nilIface]) ∧ Ext W w') ∧
   (∀ W, Ext w W → Calls Tryz.prog 335 #[.int .u64 u, .int .i64 10] W fun e w' => e = .returned (.string s) ∧ Ext W w'))
theorem Says.ext {w w' : World} {t : Int} {s : ByteArray} {n : Int} (h : Says w t s n) (k : Ext w w') : Says w' t s n := by
 obtain ⟨h1, h2, h3⟩ := h
 refine ⟨h1, h2, ?_⟩
 rcases h3 with ⟨a, b, c⟩ | ⟨a, u, b, c, d, e⟩
 · exact .inl ⟨a, fun W q => b W (k.trans q), fun W q => c W (k.trans q)⟩
 · exact .inr ⟨a, u, b, c, fun W q => d W (k.trans q), fun W q => e W (k.trans q)⟩
theorem Says.ok {w : World} {t : Int} {s : ByteArray} {n : Int} (h : Says w t s n) : ValOk t (n, emp) := by
 rcases h.2.2 with ⟨a, _⟩ | ⟨a, _⟩
 · exact ⟨h.1, .inl ⟨.inl a, rfl⟩⟩
 · exact ⟨h.1, .inl ⟨.inr a, rfl⟩⟩
theorem textC (t : Int) (s : ByteArray) (n : Int) (w : World) (h : Says w t s n) : Calls Tryz.prog 272 #[.int .i64 t, valV (n, emp)] w fun e w' => e = .returned (.string s) ∧ Ext w w' := by
 have hv := h.ok
 have hfit := fun W => fits t (n, emp) hv W
 obtain ⟨h1, h2, h3⟩ := h
 have hB := bN w (.cells #[.int .i64 n, .string emp] 33)
 have hE0 := (Ext.refl w).alloc (.cells #[.int .i64 n, .string emp] 33)
 rcases h3 with ⟨rfl, h4, h5⟩ | ⟨rfl, u, h6, h7, h4, h5⟩
 · have H5 := As.mk h5
   have HF := As.mk hfit
   clear h4 h5 hfit hv
   go_enter Tryz.func272, Tryz.ntmps272
   go_wp2_with (fail)
   refine (HF.out _).mono ?_; rintro e w1 ⟨rfl, hE1⟩
   have hB1 := hE1.blk hB
   (have p0 := bC (hB1) 0; have p1 := bC (hB1) 1)
   go_wp2_with (fail)
   refine (H5.out _ (hE0.trans hE1)).mono ?_; rintro e w2 ⟨rfl, hE2⟩
   go_wp2
   go_ret
   exact ⟨rfl, (hE0.trans hE1).trans hE2⟩
 · have H5 := As.mk h5
   have HF := As.mk hfit
   clear h4 h5 hfit hv
   go_enter Tryz.func272, Tryz.ntmps272
   go_wp2_with (fail)
   refine (HF.out _).mono ?_; rintro e w1 ⟨rfl, hE1⟩
   have hB1 := hE1.blk hB
   (have p0 := bC (hB1) 0; have p1 := bC (hB1) 1)
   go_wp2_with (fail)
   refine (H5.out _ (hE0.trans hE1)).mono ?_; rintro e w2 ⟨rfl, hE2⟩
   go_wp2
   go_ret
   exact ⟨rfl, (hE0.trans hE1).trans hE2⟩
theorem readC (t : Int) (s : ByteArray) (n : Int) (w : World) (h : Says w t s n) : Calls Tryz.prog 192 #[.int .i64 t, .string s] w fun e w' => e = .returned (.tuple #[valV (n, emp), .bool true]) ∧ Ext w w' := by
 have hs := h
 have hne := h.2.1
 obtain ⟨h1, h2, h3⟩ := h
 have hB0 := bN w (.cells #[.int .i64 0, .string emp] 33)
 have hB1 := bN (w.alloc (.cells #[.int .i64 0, .string emp] 33)) (.cells #[.int .i64 0, .string emp] 33)
 have hB2 := ((Ext.refl (w.alloc (.cells #[.int .i64 0, .string emp] 33))).alloc (.cells #[.int .i64 0, .string emp] 33)).blk hB0
 have hE0 := ((Ext.refl w).alloc (.cells #[.int .i64 0, .string emp] 33)).alloc (.cells #[.int .i64 0, .string emp] 33)
 simp only [World.size_alloc] at hB1
 have hd1 : ¬ s.toList = [] := fun q => hne (by rw [Lib.toList_data] at q; exact ByteArray.ext (Array.toList_inj.1 q))
 have hd2 : s.toList.isEmpty = false := by rw [Bool.eq_false_iff]; intro q; exact hd1 (List.isEmpty_iff.1 q)
 clear hne h2
 rcases h3 with ⟨rfl, h4, h5⟩ | ⟨rfl, u, h6, h7, h4, h5⟩
 all_goals
   have H4 := As.mk h4
   have HS := As.mk hs
   clear h4 h5 hB0 hs
 · go_enter Tryz.func192, Tryz.ntmps192
   go_wp2_with (fail)
   refine (H4.out _ hE0).mono ?_; rintro e w1 ⟨rfl, hE1⟩
   have hb1 := hE1.blk hB1
   have hb2 := hE1.blk hB2
   have hE01 := hE0.trans hE1
   clear hB1 hB2
   (have p0 := bC (hb1) 0; have pf0 := bF (hb1) 0; have p1 := bC (hb1) 1; have pf1 := bF (hb1) 1)
   (have q0 := bC (hb2) 0; have qf0 := bF (hb2) 0; have q1 := bC (hb2) 1; have qf1 := bF (hb2) 1)
   go_wp2_with (fail)
   go_region
   (try simp only [Exit.inBlock, Exit.then])
   have K1 := kS1 w1 (w.heap.size + 1) 0 (.int .i64 n)
   have hb3 := (Ext.refl _).drew.blk (bS hb1 0 (.int .i64 n))
   have hb4 := (Ext.refl _).drew.blk (K1.blk (by omega) hb2)
   have hE2 : Ext w (w1.setCell ⟨w.heap.size + 1, 0, none⟩ (.int .i64 n)).drew := (hE01.setCell (a := ⟨w.heap.size + 1, 0, none⟩) (by show w.heap.size ≤ w.heap.size + 1; omega) _).drew
   clear p0 pf0 p1 pf1 q0 qf0 q1 qf1 hb1 hb2 K1
   generalize (w1.setCell ⟨w.heap.size + 1, 0, none⟩ (.int .i64 n)).drew = w2 at *
   (have p0 := bC (hb3) 0; have pf0 := bF (hb3) 0; have p1 := bC (hb3) 1; have pf1 := bF (hb3) 1)
   go_wp2_with (fail)
   refine (textC 1 s n _ (HS.out.ext hE2)).mono ?_; rintro e w3 ⟨rfl, hE3⟩
   have hb5 := hE3.blk hb3
   have hb6 := hE3.blk hb4
   clear p0 pf0 p1 pf1
   (have p0 := bC (hb5) 0; have pf0 := bF (hb5) 0; have p1 := bC (hb5) 1; have pf1 := bF (hb5) 1)
   (have q0 := bC (hb6) 0; have qf0 := bF (hb6) 0; have q1 := bC (hb6) 1; have qf1 := bF (hb6) 1)
   go_wp2_with (fail)
   have hb7 := bS (bS hb6 0 (.int .i64 n)) 1 (.string emp)
   have e0 := bC hb7 0
   have e1 := bC hb7 1
   refine bodyPost_ret (v := .tuple #[valV (n, emp), .bool true]) (by simp [results, Tryz.results192, go_sem, e0, e1]) rfl ?_
   exact ⟨rfl, ((hE2.trans hE3).setCell (a := ⟨w.heap.size, 0, none⟩) (Nat.le_refl _) _).setCell (a := ⟨w.heap.size, 1, none⟩) (Nat.le_refl _) _⟩
 · go_enter Tryz.func192, Tryz.ntmps192
   go_wp2_with (fail)
   refine (H4.out _ hE0).mono ?_; rintro e w1 ⟨rfl, hE1⟩
   have hb1 := hE1.blk hB1
   have hb2 := hE1.blk hB2
   have hE01 := hE0.trans hE1
   clear hB1 hB2
   (have p0 := bC (hb1) 0; have pf0 := bF (hb1) 0; have p1 := bC (hb1) 1; have pf1 := bF (hb1) 1)
   (have q0 := bC (hb2) 0; have qf0 := bF (hb2) 0; have q1 := bC (hb2) 1; have qf1 := bF (hb2) 1)
   go_wp2_with (fail)
   go_region
   (try simp only [Exit.inBlock, Exit.then])
   have K1 := kS1 w1 (w.heap.size + 1) 0 (.int .i64 n)
   have hb3 := (Ext.refl _).drew.blk (bS hb1 0 (.int .i64 n))
   have hb4 := (Ext.refl _).drew.blk (K1.blk (by omega) hb2)
   have hE2 : Ext w (w1.setCell ⟨w.heap.size + 1, 0, none⟩ (.int .i64 n)).drew := (hE01.setCell (a := ⟨w.heap.size + 1, 0, none⟩) (by show w.heap.size ≤ w.heap.size + 1; omega) _).drew
   clear p0 pf0 p1 pf1 q0 qf0 q1 qf1 hb1 hb2 K1
   generalize (w1.setCell ⟨w.heap.size + 1, 0, none⟩ (.int .i64 n)).drew = w2 at *
   (have p0 := bC (hb3) 0; have pf0 := bF (hb3) 0; have p1 := bC (hb3) 1; have pf1 := bF (hb3) 1)
   go_wp2_with (fail)
   refine (textC 2 s n _ (HS.out.ext hE2)).mono ?_; rintro e w3 ⟨rfl, hE3⟩
   have hb5 := hE3.blk hb3
   have hb6 := hE3.blk hb4
   clear p0 pf0 p1 pf1
   (have p0 := bC (hb5) 0; have pf0 := bF (hb5) 0; have p1 := bC (hb5) 1; have pf1 := bF (hb5) 1)
   (have q0 := bC (hb6) 0; have qf0 := bF (hb6) 0; have q1 := bC (hb6) 1; have qf1 := bF (hb6) 1)
   go_wp2_with (fail)
   have hb7 := bS (bS hb6 0 (.int .i64 n)) 1 (.string emp)
   have e0 := bC hb7 0
   have e1 := bC hb7 1
   refine bodyPost_ret (v := .tuple #[valV (n, emp), .bool true]) (by simp [results, Tryz.results192, go_sem, e0, e1]) rfl ?_
   exact ⟨rfl, ((hE2.trans hE3).setCell (a := ⟨w.heap.size, 0, none⟩) (Nat.le_refl _) _).setCell (a := ⟨w.heap.size, 1, none⟩) (Nat.le_refl _) _⟩
theorem toldC (w : World) : Calls Tryz.prog 190 #[.int .i64 0] w fun e w' => e = .returned (.string ⟨#[111, 107]⟩) ∧ w = w' := by
 go_enter Tryz.func190, Tryz.ntmps190
 go_wp2
 go_ret
 exact ⟨rfl, rfl⟩
theorem numberC (s : ByteArray) (n : Int) (h0 : 0 ≤ n) (h1 : n ≤ 999999) (w : World) (h : Says w 1 s n) : Calls Tryz.prog 197 #[.string s] w fun e w' => e = .returned (.tuple #[.int .i64 n, .bool true]) ∧ Ext w w' := by
 have HR := As.mk (readC 1 s n w h)
 have d0 : decide (n ≤ 999999) = true := decide_eq_true h1
 have d1 : decide (0 ≤ n) = true := decide_eq_true h0
 clear h
 go_enter Tryz.func197, Tryz.ntmps197
 go_wp2_with (fail)
 refine HR.out.mono ?_; rintro e w1 ⟨rfl, hE1⟩
 have hB := bN w1 (.cells #[.int .i64 n, .string emp] 33)
 have hE2 := hE1.alloc (.cells #[.int .i64 n, .string emp] 33)
 go_wp2_with (fail)
 generalize w1.alloc (.cells #[.int .i64 n, .string emp] 33) = w2 at *
 (have p0 := bC (hB) 0; have p1 := bC (hB) 1)
 go_region
 (try simp only [Exit.inBlock, Exit.then])
 go_wp2
 refine bodyPost_ret (v := .tuple #[.int .i64 n, .bool true]) (by simp [results, Tryz.results197, go_sem]) rfl ?_
 exact ⟨rfl, XE⟩
def SaysL (w : World) (l : List ByteArray) (ns : List Int) : Prop := l.length = ns.length ∧ ∀ k (h : k < l.length) (h' : k < ns.length), Says w 1 l[k] ns[k] ∧ 0 ≤ ns[k] ∧ ns[k] ≤ 999999
theorem SaysL.ext {w w' : World} {l : List ByteArray} {ns : List Int} (h : SaysL w l ns) (k : Ext w w') : SaysL w' l ns := ⟨h.1, fun i h1 h2 => ⟨(h.2 i h1 h2).1.ext k, (h.2 i h1 h2).2⟩⟩
theorem take_succ_get {α : Type} (l : List α) (k : Nat) (h : k < l.length) : l.take (k + 1) = l.take k ++ [l[k]] := by rw [List.take_add_one, List.getElem?_eq_getElem h]; rfl
theorem elIntN : El Tryz.prog 25 3 (rdInt .i64).sz 8 := El.mk (z := .int .i64 0) Tryz.underlying25 (by kernel_rfl) rfl (by decide)
theorem numbersC (F : Nat → Prop) (A : Option Addr) (c : Nat) (l : List ByteArray) (ns : List Int) (w : World) (hl : rdStr.Sl F w A c l) (hn : l.length ≤ 100000) (h : SaysL w l ns) (hF : ∀ k, F k → k < w.heap.size) :
   Calls Tryz.prog 110 #[.slice A l.length c] w fun e w' => ∃ v, e = .returned (.tuple #[v, .bool true]) ∧ (rdInt .i64).Own F w.heap.size 3 w' v ns ∧ Ext w w' := by
 have HS := As.mk h
 have hlen : As (ns.length = l.length) := ⟨h.1.symm⟩
 clear h
 go_enter Tryz.func110, Tryz.ntmps110
 go_wp2_with (fail)
 go_loopw [4, 11] (fun v i wr => ∃ k : Nat, i = .int .i64 k ∧ k ≤ l.length ∧ (rdInt .i64).Own F w.heap.size 3 wr v (ns.take k) ∧ Ext w wr) (fun _ i _ => l.length - (intOf i).toNat)
 case atStart => exact ⟨0, by go_num, Nat.zero_le _, Rd.Own.nil _ _ _ _ _, Ext.refl _⟩
 case round =>

   obtain ⟨k, rfl, hkl, hown, hE⟩ := hrel
   by_cases hlt : k < l.length
   · obtain ⟨b, o, rfl, hc⟩ := str_get (hl.ext hE) hlt
     have hk2 : k < ns.length := by rw [hlen.out]; exact hlt
     obtain ⟨hs1, hs2, hs3⟩ := HS.out.2 k hlt hk2
     obtain ⟨n, hn0⟩ : ∃ n, ns[k] = n := ⟨_, rfl⟩
     obtain ⟨s, hs0⟩ : ∃ s, l[k] = s := ⟨_, rfl⟩
     rw [hs0] at hs1 hc
     rw [hn0] at hs1 hs2 hs3
     have HN := As.mk (numberC s n hs2 hs3 wr (hs1.ext hE))
     have HN0 := As.mk hn0
     clear hs1 hs2 hs3 hn0 hs0
     go_wp2_with (fail)
     refine HN.out.mono ?_; rintro e w1 ⟨rfl, hE1⟩
     have hownc := hown.ext hE1
     have hfk : As ((ns.take k).length = k) := ⟨by rw [List.length_take]; omega⟩
     have hE01 := hE.trans hE1
     go_wp2_with (first | (at_builtin; refine wpList_push rfl _ _ _ rfl (rdInt .i64) elIntN rfl (hownc.ext ((Ext.refl _).alloc _)) rfl (heap_alloc_new _ _) (y := n) rfl (by rw [hfk.out]; omega) (by rw [hfk.out]; unfold maxLen; omega) (by have := hE01.size; simp; omega) (hE01.alloc _) ?_; intro v' w2 hown2 hg2 hE2))
     rw [← HN0.out, ← take_succ_get ns k hk2] at hown2
     go_roundw
     case rel => exact ⟨k + 1, by go_num, by omega, hown2, hE2⟩
     case measure => simp [intOf] <;> omega
   · obtain rfl : k = l.length := by omega
     have ht : ns.take l.length = ns := List.take_of_length_le (by rw [hlen.out]; exact Nat.le_refl _)
     rw [ht] at hown
     clear ht
     go_wp2_with (fail)
     refine bodyPost_ret (v := .tuple #[u4, .bool true]) (by simp [results, Tryz.results110, go_sem]) rfl ?_
     exact ⟨u4, rfl, hown, hE⟩
end K88
end Go.Proofs.YtbjeejimedhniaaGreatDoor
namespace Go.Proofs
open Go.Shelf
def Tryz.lays161_ren : Go.Shelf.Ren := ⟨fun | 161 => 103 | 231 => 181 | 227 => 182 | 233 => 183 | 235 => 184 | 228 => 266 | 197 => 179 | 151 => 267 | 260 => 264 | 152 => 328 | 137 => 357 | 119 => 358 | 224 => 326 | 225 => 325 | 217 => 324 | 266 => 355 | n => n, fun | 9 => 9 | 4 => 4 | 3 => 3 | 5 => 5 | 117 => 258 | 116 => 257 | 0 => 0 | 124 => 261 | 105 => 252 | 21 => 21 | 119 => 392 | 46 => 347 | 139 => 395 | 138 => 394 | n => n, fun | 3 => 0 | 4 => 1 | n => n⟩
theorem Tryz.lays161 : Go.Proofs.Lays.n161 Tryz.prog Tryz.lays161_ren := {
  mixed := by kernel_rfl
  f119 := Tryz.func358.trans (congrArg some (by kernel_rfl))
  f137 := Tryz.func357.trans (congrArg some (by kernel_rfl))
  f151 := Tryz.func267.trans (congrArg some (by kernel_rfl))
  f152 := Tryz.func328.trans (congrArg some (by kernel_rfl))
  f161 := Tryz.func103.trans (congrArg some (by kernel_rfl))
  f197 := Tryz.func179.trans (congrArg some (by kernel_rfl))
  f217 := Tryz.func324.trans (congrArg some (by kernel_rfl))
  f224 := Tryz.func326.trans (congrArg some (by kernel_rfl))
  f225 := Tryz.func325.trans (congrArg some (by kernel_rfl))
  f227 := Tryz.func182.trans (congrArg some (by kernel_rfl))
  f228 := Tryz.func266.trans (congrArg some (by kernel_rfl))
  f231 := Tryz.func181.trans (congrArg some (by kernel_rfl))
  f233 := Tryz.func183.trans (congrArg some (by kernel_rfl))
  f235 := Tryz.func184.trans (congrArg some (by kernel_rfl))
  f260 := Tryz.func264.trans (congrArg some (by kernel_rfl))
  f266 := Tryz.func355.trans (congrArg some (by kernel_rfl))
  t0 := Tryz.underlying0
  a0 := Tryz.isAgg0
  z0 := Tryz.sizeOf0
  v0 := Tryz.zeroValue0
  t3 := Tryz.underlying3
  a3 := Tryz.isAgg3
  z3 := Tryz.sizeOf3
  v3 := Tryz.zeroValue3
  t4 := Tryz.underlying4
  a4 := Tryz.isAgg4
  z4 := Tryz.sizeOf4
  v4 := Tryz.zeroValue4
  t5 := Tryz.underlying5
  a5 := Tryz.isAgg5
  z5 := Tryz.sizeOf5
  v5 := Tryz.zeroValue5
  t9 := Tryz.underlying9
  a9 := Tryz.isAgg9
  z9 := Tryz.sizeOf9
  v9 := Tryz.zeroValue9
  t21 := Tryz.underlying21
  a21 := Tryz.isAgg21
  z21 := Tryz.sizeOf21
  v21 := Tryz.zeroValue21
  t46 := Tryz.underlying347
  a46 := Tryz.isAgg347
  z46 := Tryz.sizeOf347
  v46 := Tryz.zeroValue347
  t105 := Tryz.underlying252
  a105 := Tryz.isAgg252
  z105 := Tryz.sizeOf252
  v105 := Tryz.zeroValue252
  t116 := Tryz.underlying257
  a116 := Tryz.isAgg257
  z116 := Tryz.sizeOf257
  t117 := Tryz.underlying258
  a117 := Tryz.isAgg258
  z117 := Tryz.sizeOf258
  v117 := Tryz.zeroValue258
  t119 := Tryz.underlying392
  a119 := Tryz.isAgg392
  z119 := Tryz.sizeOf392
  t124 := Tryz.underlying261
  a124 := Tryz.isAgg261
  z124 := Tryz.sizeOf261
  v124 := Tryz.zeroValue261
  t138 := Tryz.underlying394
  a138 := Tryz.isAgg394
  z138 := Tryz.sizeOf394
  v138 := Tryz.zeroValue394
  t139 := Tryz.underlying395
  a139 := Tryz.isAgg395
  z139 := Tryz.sizeOf395
  v139 := Tryz.zeroValue395
  g3 := by kernel_rfl
  g4 := by kernel_rfl }
open Go.RowKit in
theorem Tryz.strings_TrimLeft_one (s : ByteArray) (c : UInt8) (hc : c.toNat < 128) (w : World) :
    Calls Tryz.prog 103 #[.string s, .string ⟨#[c]⟩] w fun e w' => e = .returned (.string ⟨(Lib.trimLeftB s.data.toList c).toArray⟩) ∧ w' = w := Any.strings_TrimLeft_one Tryz.lays161 s c hc w
def Tryz.lays219_ren : Go.Shelf.Ren := ⟨fun | 219 => 265 | 217 => 324 | 225 => 325 | 224 => 326 | 267 => 327 | 266 => 355 | 314 => 356 | n => n, fun | 9 => 9 | 3 => 3 | 4 => 4 | 5 => 5 | 46 => 347 | 146 => 417 | 51 => 23 | n => n, fun | 1 => 2 | n => n⟩
theorem Tryz.lays219 : Go.Proofs.Lays.n219 Tryz.prog Tryz.lays219_ren := {
  mixed := by kernel_rfl
  f217 := Tryz.func324.trans (congrArg some (by kernel_rfl))
  f219 := Tryz.func265.trans (congrArg some (by kernel_rfl))
  f224 := Tryz.func326.trans (congrArg some (by kernel_rfl))
  f225 := Tryz.func325.trans (congrArg some (by kernel_rfl))
  f266 := Tryz.func355.trans (congrArg some (by kernel_rfl))
  f267 := Tryz.func327.trans (congrArg some (by kernel_rfl))
  f314 := Tryz.func356.trans (congrArg some (by kernel_rfl))
  t3 := Tryz.underlying3
  a3 := Tryz.isAgg3
  z3 := Tryz.sizeOf3
  v3 := Tryz.zeroValue3
  t4 := Tryz.underlying4
  a4 := Tryz.isAgg4
  z4 := Tryz.sizeOf4
  v4 := Tryz.zeroValue4
  t5 := Tryz.underlying5
  a5 := Tryz.isAgg5
  z5 := Tryz.sizeOf5
  v5 := Tryz.zeroValue5
  t9 := Tryz.underlying9
  a9 := Tryz.isAgg9
  z9 := Tryz.sizeOf9
  v9 := Tryz.zeroValue9
  t46 := Tryz.underlying347
  a46 := Tryz.isAgg347
  z46 := Tryz.sizeOf347
  v46 := Tryz.zeroValue347
  t51 := Tryz.underlying23
  a51 := Tryz.isAgg23
  z51 := Tryz.sizeOf23
  v51 := Tryz.zeroValue23
  t146 := Tryz.underlying417
  a146 := Tryz.isAgg417
  z146 := Tryz.sizeOf417
  v146 := Tryz.zeroValue417
  g1 := by kernel_rfl }
open Go.RowKit Go.Lib in
theorem Tryz.stringslite_Index_one (s : ByteArray) (c : UInt8) (w : World) :
    Calls Tryz.prog 265 #[.string s, .string ⟨#[c]⟩] w fun e w' => e = .returned (.int .i64 (Lib.indexByte s.data.toList c)) ∧ w' = w := Any.stringslite_Index_one Tryz.lays219 s c w
open Go.RowKit Go.Lib in
def Tryz.lays103_ren : Go.Shelf.Ren := ⟨fun | 103 => 105 | 210 => 186 | 206 => 268 | n => n, fun | 9 => 9 | 4 => 4 | 24 => 181 | 3 => 3 | n => n, fun | n => n⟩
theorem Tryz.lays103 : Go.Proofs.Lays.n103 Tryz.prog Tryz.lays103_ren := {
  mixed := by kernel_rfl
  f103 := Tryz.func105.trans (congrArg some (by kernel_rfl))
  f206 := Tryz.func268.trans (congrArg some (by kernel_rfl))
  f210 := Tryz.func186.trans (congrArg some (by kernel_rfl))
  t3 := Tryz.underlying3
  a3 := Tryz.isAgg3
  z3 := Tryz.sizeOf3
  v3 := Tryz.zeroValue3
  t4 := Tryz.underlying4
  a4 := Tryz.isAgg4
  z4 := Tryz.sizeOf4
  v4 := Tryz.zeroValue4
  t9 := Tryz.underlying9
  a9 := Tryz.isAgg9
  z9 := Tryz.sizeOf9
  v9 := Tryz.zeroValue9
  t24 := Tryz.underlying181
  a24 := Tryz.isAgg181
  z24 := Tryz.sizeOf181
  v24 := Tryz.zeroValue181 }
open Go.RowKit in
theorem Tryz.strings_CutPrefix (s p : ByteArray) (w : World) :
    Calls Tryz.prog 105 #[.string s, .string p] w fun e w' => e = .returned (.tuple #[.string ⟨(Lib.trimPrefix s.data.toList p.data.toList).toArray⟩, .bool (Lib.hasPrefix s.data.toList p.data.toList)]) ∧ w' = w := Any.strings_CutPrefix Tryz.lays103 s p w
end Go.Proofs
