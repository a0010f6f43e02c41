/- Contracts of the program's functions, as the walks of the law use them. -/
import Derived.Test.YtbjeejimedhniaaGreatDoorD2
import Derived.Maps.OwnSet
import Derived.Maps.Views
import Derived.RegionTactic
import Derived.Deep.RegionHeld3
import Derived.Lib.Bytealg
import Derived.Test.YtbjeejimedhniaaGreatDoorProg
import Derived.KernelRfl
import Derived.Maps.RangeWalk
import Derived.DeepKeys4
import Derived.BigRegion
import Derived.Test.YtbjeejimedhniaaGreatDoorD3
set_option linter.unusedVariables false
set_option linter.unusedSimpArgs false
set_option maxRecDepth 100000
set_option maxHeartbeats 2000000
namespace Go.Proofs.YtbjeejimedhniaaGreatDoor
namespace KB
open Go Go.RowKit Go.Maps
section
variable {P : Program} {ops : Array Oper} {Q : Exit → Act → World → Prop}
theorem wpOp_value {i : Nat} {o : Oper} {a : Act} {w w' : World} {v : Value} {K : Act → World → Prop} (ho : ops[i]? = some o) (hg : o.guard = none) (hr : (execOp a.eval o).run P w = .ok (.value v) w') (h : K (a.put o.dst v) w') : wpOp P ops Q i K a w := by
 unfold wpOp
 rw [ho]
 simp only [Region.wanted, hg, if_true]
 left
 unfold Oper.wp
 rw [hr]
 exact h
theorem wpOp_skip {i : Nat} {o : Oper} {a : Act} {w w' : World} {K : Act → World → Prop} (ho : ops[i]? = some o) (hg : o.guard = none) (hr : (execOp a.eval o).run P w = .ok .skip w') (h : K (a.put o.dst undef) w') : wpOp P ops Q i K a w := by
 unfold wpOp
 rw [ho]
 simp only [Region.wanted, hg, if_true]
 left
 unfold Oper.wp
 rw [hr]
 exact h
theorem countP_set (p q : Nat → Bool) (i : Nat) (hp : p i = true) (hq : ∀ j, q j = (p j && !decide (j = i))) : ∀ n, (List.range n).countP q + (if i < n then 1 else 0) = (List.range n).countP p := by
 intro n
 induction n with
 | zero => rfl
 | succ n ih =>
   rw [List.range_succ, List.countP_append, List.countP_append, List.countP_singleton, List.countP_singleton]
   have hqn := hq n
   rcases Nat.lt_trichotomy i n with h | h | h
   · have e : q n = p n := by rw [hqn, decide_eq_false (show ¬ n = i by omega)]; simp
     rw [e]
     simp only [h, Nat.lt_succ_of_lt h, if_true] at ih ⊢
     omega
   · subst h
     have e : q i = false := by rw [hqn]; simp
     rw [e, hp]
     simp only [Nat.lt_irrefl, Nat.lt_succ_self, if_true, if_false] at ih ⊢
     simp at ih ⊢
     omega
   · have e : q n = p n := by rw [hqn, decide_eq_false (show ¬ n = i by omega)]; simp
     rw [e]
     simp only [show ¬ i < n by omega, show ¬ i < n + 1 by omega, if_false] at ih ⊢
     omega
theorem region_done {id : Nat} {a : Act} {w : World} (hm : P.follows .mixedOrders = true) (J : (Nat → Bool) → Act → World → Prop)
   (hback : ∀ (i : Nat) o, ops[i]? = some o → ∀ e ∈ o.after, e.on < i) (h0 : J (fun _ => false) a w.drew)
   (hstep : ∀ L a w (i : Nat) o, J L a w → ops[i]? = some o → L i = false → (∀ e ∈ o.after, Region.binds .any e = true → L e.on = true) → wpOp P ops Q i (J (fun j => L j || decide (j = i))) a w)
   (hend : ∀ L a w, J L a w → (∀ i, i < ops.size → L i = true) → Q .normal a w) : (Code.region id ops true).wp P Q a w := by
 refine wp_region_any hm ?_
 have hready : ∀ listed : Array Bool, listed.size = ops.size → Region.ready .any ops listed = [] → ∀ i, i < ops.size → listed.getD i false = true := by
   intro listed hs hr i
   induction i using Nat.strongRecOn with
   | ind i ih =>
     intro hi
     cases hc : listed.getD i false with
     | true => rfl
     | false =>
       exfalso
       have hmem : i ∈ Region.ready .any ops listed := by
         refine List.mem_filter.2 ⟨List.mem_range.2 hi, ?_⟩
         have e1 : listed.getD i true = false := by
           simp only [Array.getD_eq_getD_getElem?, Array.getElem?_eq_getElem (show i < listed.size by omega), Option.getD_some] at hc ⊢; exact hc
         rw [e1, Array.getElem?_eq_getElem hi]
         simp only [Bool.not_false, Bool.true_and, Option.map_some, Option.getD_some, Array.all_eq_true_iff_forall_mem]
         intro e he
         have := hback i _ (Array.getElem?_eq_getElem hi) e he
         rw [ih e.on this (by omega)]; simp
       rw [hr] at hmem
       cases hmem
 have main : ∀ fuel (listed : Array Bool) a w, listed.size = ops.size → (List.range ops.size).countP (fun i => !listed.getD i false) ≤ fuel → J (fun j => listed.getD j false) a w → wpAny P .any ops Q fuel listed a w := by
   intro fuel
   induction fuel with
   | zero =>
     intro listed a w hs hc hJ
     have hall : ∀ i, i < ops.size → listed.getD i false = true := fun i hi => by
       have h1 := List.countP_eq_zero.1 (Nat.le_zero.1 hc) i (List.mem_range.2 hi)
       simpa using h1
     refine ⟨?_, hend _ _ _ hJ hall⟩
     rw [Region.ready, List.filter_eq_nil_iff]
     intro i hi
     have hi := List.mem_range.1 hi
     have h1 := hall i hi
     have e1 : listed.getD i true = true := by
       simp only [Array.getD_eq_getD_getElem?, Array.getElem?_eq_getElem (show i < listed.size by omega), Option.getD_some] at h1 ⊢; exact h1
     rw [e1]; simp
   | succ fuel ih =>
     intro listed a w hs hc hJ
     refine ⟨fun hr => hend _ _ _ hJ (hready listed hs hr), fun i hi => ?_⟩
     have hmem := List.mem_filter.1 hi
     have hil := List.mem_range.1 hmem.1
     have h2 := hmem.2
     rw [Array.getElem?_eq_getElem hil] at h2
     simp only [Option.map_some, Option.getD_some, Bool.and_eq_true, Bool.not_eq_true', Array.all_eq_true_iff_forall_mem] at h2
     have e1 : listed.getD i false = false := by
       have := h2.1
       simp only [Array.getD_eq_getD_getElem?, Array.getElem?_eq_getElem (show i < listed.size by omega), Option.getD_some] at this ⊢; exact this
     have hset : ∀ j, (listed.setIfInBounds i true).getD j false = (listed.getD j false || decide (j = i)) := by
       intro j
       simp only [Array.getD_eq_getD_getElem?, Array.getElem?_setIfInBounds]
       by_cases e : i = j
       · subst e; simp [show i < listed.size by omega]
       · have : ¬ j = i := fun q => e q.symm
         simp [e, this]
     refine wpOp_mono (fun a' w' hJ' => ih _ a' w' (by simpa using hs) ?_ ?_) (hstep _ a w i _ hJ (Array.getElem?_eq_getElem hil) e1 (fun e he hb => by
       have := h2.2 e he
       rw [hb] at this; simpa using this))
     · have := countP_set (fun j => !listed.getD j false) (fun j => !(listed.setIfInBounds i true).getD j false) i (by simp only [e1]; rfl) (fun j => by simp only [hset j]; cases listed.getD j false <;> simp) ops.size
       rw [if_pos hil] at this
       omega
     · have e : (fun j => (listed.setIfInBounds i true).getD j false) = fun j => (listed.getD j false || decide (j = i)) := funext hset
       rw [e]; exact hJ'
 refine main ops.size _ a _ (by simp) (Nat.le_trans List.countP_le_length (by simp)) ?_
 have e : (fun j => (Array.replicate ops.size false).getD j false) = fun _ => false := by
   funext j
   simp only [Array.getD_eq_getD_getElem?, Array.getElem?_replicate]
   split <;> rfl
 rw [e]; exact h0
structure LitJ (P : Program) (ops : Array Oper) (a0 : Act) (w0 : World) (kt : TypeId) (R : Value → Option (DataW Unit × List MemPlace)) (val : Nat → Value) (ins : Nat → Option (Lit × DataW Unit)) (L : Nat → Bool) (a : Act) (w : World) : Prop where
 val : ∀ (i : Nat) o d, L i = true → ops[i]? = some o → o.dst = some d → a.eval (.tmp d) = val i
 old : ∀ d, (∀ (i : Nat) o, ops[i]? = some o → o.dst ≠ some d) → a.eval (.tmp d) = a0.eval (.tmp d)
 size : a.tmps.size = a0.tmps.size
 def_ : a.defers = a0.defers
 ext : Ext w0 w
 new : L 0 = false → w.heap.size = w0.heap.size
 pre : ∀ i z, L i = true → ins i = some z → L 0 = true
 map : L 0 = true → ∃ D n, n ≤ (List.range ops.size).countP L ∧ w.ownsMap P kt R w0.heap.size n D ∧ ∀ i kl d, L i = true → ins i = some (kl, d) → ∀ z, D.atKey kl z = d
theorem eval_put (a : Act) (d e : Nat) (v : Value) (hd : d < a.tmps.size) : (a.put (some d) v).eval (.tmp e) = if e = d then v else a.eval (.tmp e) := by
 show (a.tmps.setIfInBounds d v).getD e undef = if e = d then v else a.tmps.getD e undef
 simp only [Array.getD_eq_getD_getElem?, Array.getElem?_setIfInBounds]
 by_cases h : d = e
 · subst h; simp [hd]
 · have : ¬ e = d := fun q => h q.symm
   simp [h, this]
theorem lit_region {id : Nat} {a0 : Act} {w0 : World} (hm : P.follows .mixedOrders = true) {kt et : TypeId} (K : Keyed P kt) (R : Value → Option (DataW Unit × List MemPlace)) (val : Nat → Value) (ins : Nat → Option (Lit × DataW Unit)) {t : TypeId} (ht : P.underlying t = some (.map kt et))
   (hsz : ops.size ≤ 1000) (hback : ∀ (i : Nat) o, ops[i]? = some o → ∀ e ∈ o.after, e.on < i) (hg : ∀ (i : Nat) o, ops[i]? = some o → o.guard = none)
   (hdst : ∀ (i j : Nat) oi oj d, ops[i]? = some oi → ops[j]? = some oj → oi.dst = some d → oj.dst = some d → i = j) (hdl : ∀ (i : Nat) o d, ops[i]? = some o → o.dst = some d → d < a0.tmps.size)
   (hkeys : ∀ i j k k' d d', ins i = some (k, d) → ins j = some (k', d') → ¬ i = j → ¬ k = k')
   (h0 : ∃ o d, ops[0]? = some o ∧ o.op = .makeMap t none ∧ o.dst = some d ∧ val 0 = .map (some w0.heap.size) ∧ ins 0 = none)
   (hop : ∀ (i : Nat) o, ops[i]? = some o → i ≠ 0 → ∀ a : Act, (∀ e ∈ o.after, Region.binds .any e = true → ∀ (o' : Oper) (d : Nat), ops[e.on]? = some o' → o'.dst = some d → a.eval (.tmp d) = val e.on) → (∀ d, (∀ (i : Nat) o, ops[i]? = some o → o.dst ≠ some d) → a.eval (.tmp d) = a0.eval (.tmp d)) →
     (ins i = none ∧ (∃ d, o.dst = some d) ∧ ∀ w, (execOp a.eval o).run P w = .ok (.value (val i)) w) ∨
     (∃ kl d m k v, ins i = some (kl, d) ∧ WideAt.IsKeyLit kl ∧ o.op = Op.insert t m k v ∧ o.dst = none ∧ a.eval m = .map (some w0.heap.size) ∧ (∃ ps, R (a.eval v) = some (d, ps)) ∧ keyOf P kt (a.eval k) = some kl ∧ ∃ e ∈ o.after, e.on = 0 ∧ Region.binds .any e = true))
   (hQ : ∀ a w, a.tmps.size = a0.tmps.size → a.defers = a0.defers → (∀ (i : Nat) o d, ops[i]? = some o → o.dst = some d → a.eval (.tmp d) = val i) → (∀ d, (∀ (i : Nat) o, ops[i]? = some o → o.dst ≠ some d) → a.eval (.tmp d) = a0.eval (.tmp d)) → Ext w0 w →
     (∃ D n, w.ownsMap P kt R w0.heap.size n D ∧ ∀ i kl d, i < ops.size → ins i = some (kl, d) → ∀ z, D.atKey kl z = d) → Q .normal a w) : (Code.region id ops true).wp P Q a0 w0 := by
 refine region_done hm (LitJ P ops a0 w0 kt R val ins) hback ?_ ?_ ?_
 · exact ⟨(fun _ _ _ h => by cases h), (fun _ _ => rfl), rfl, rfl, (Ext.refl w0).drew, (fun _ => rfl), (fun _ _ h => by cases h), (fun h => by cases h)⟩
 · intro L a w i o hJ ho hL hdep
   have hgd := hg i o ho
   have hil : i < ops.size := (Array.getElem?_eq_some_iff.1 ho).1
   have hmono : ∀ j, L j = true → (L j || decide (j = i)) = true := fun j h => by rw [h]; rfl
   have hvals : ∀ (v : Value) (d : Nat), o.dst = some d → v = val i → ∀ (j : Nat) oj dj, (L j || decide (j = i)) = true → ops[j]? = some oj → oj.dst = some dj → (a.put (some d) v).eval (.tmp dj) = val j := by
     intro v d hd hv j oj dj hj hoj hdj
     rw [eval_put _ _ _ _ (by rw [hJ.size]; exact hdl i o d ho hd)]
     by_cases e : dj = d
     · subst e
       have := hdst j i oj o dj hoj ho hdj hd
       subst this
       rw [if_pos rfl]; exact hv
     · rw [if_neg e]
       refine hJ.val j oj dj ?_ hoj hdj
       by_cases e2 : j = i
       · subst e2
         rw [ho] at hoj; cases hoj
         rw [hd] at hdj; cases hdj
         exact absurd rfl e
       · rw [decide_eq_false e2, Bool.or_false] at hj; exact hj
   have hold : ∀ (v : Value) (d : Nat), o.dst = some d → ∀ dj, (∀ (i : Nat) o, ops[i]? = some o → o.dst ≠ some dj) → (a.put (some d) v).eval (.tmp dj) = a0.eval (.tmp dj) := by
     intro v d hd dj hdj
     rw [eval_put _ _ _ _ (by rw [hJ.size]; exact hdl i o d ho hd), if_neg (fun e => hdj i o ho (by rw [hd, e]))]
     exact hJ.old dj hdj
   have hcnt : (List.range ops.size).countP (fun j => L j || decide (j = i)) = (List.range ops.size).countP L + 1 := by
     have := countP_set (fun j => L j || decide (j = i)) L i (by simp) (fun j => by
       by_cases e : j = i
       · subst e; simp [hL]
       · simp [e]) ops.size
     rw [if_pos hil] at this
     omega
   by_cases hi0 : i = 0
   · subst hi0
     obtain ⟨o', d, ho', h1, h2, h3, h4⟩ := h0
     rw [ho] at ho'; cases ho'
     refine wpOp_value ho hgd (v := .map (some w.heap.size)) (w' := w.alloc (.map #[] 0)) (by simp [execOp, h1, run_makeMap]) ?_
     rw [h2, hJ.new hL]
     refine ⟨hvals _ d h2 h3.symm, hold _ d h2, (by show (a.tmps.setIfInBounds _ _).size = _; rw [Array.size_setIfInBounds]; exact hJ.size), hJ.def_, hJ.ext.alloc _, (fun h => by simp at h), (fun j z hj hz => by simp), fun _ => ⟨.map [], 0, Nat.zero_le _, ?_, fun j kl dd hj hins => ?_⟩⟩
     · have := World.ownsMap_made w P kt R
       rwa [hJ.new hL] at this
     · exfalso
       by_cases e : j = 0
       · subst e; rw [h4] at hins; cases hins
       · rw [decide_eq_false e, Bool.or_false] at hj
         have := hJ.pre j _ hj hins
         rw [hL] at this; cases this
   · rcases hop i o ho hi0 a (fun e he hb o' d ho' hd => hJ.val e.on o' d (hdep e he hb) ho' hd) hJ.old with ⟨h1, ⟨d, h2⟩, h3⟩ | ⟨kl, dd, m, k, v, h1, hlit, h2, h3, h4, ⟨ps, h5⟩, h6, e, he, he0, heb⟩
     · refine wpOp_value ho hgd (h3 w) ?_
       rw [h2]
       refine ⟨hvals _ d h2 rfl, hold _ d h2, (by show (a.tmps.setIfInBounds _ _).size = _; rw [Array.size_setIfInBounds]; exact hJ.size), hJ.def_, hJ.ext, (fun h => hJ.new (by simp at h; exact h.1)), (fun j z hj hz => ?_), fun h => ?_⟩
       · by_cases e : j = i
         · subst e; rw [h1] at hz; cases hz
         · rw [decide_eq_false e, Bool.or_false] at hj
           exact hmono 0 (hJ.pre j z hj hz)
       · have hL0 : L 0 = true := by
           by_cases e : (0 : Nat) = i
           · exact absurd e.symm hi0
           · rw [decide_eq_false e, Bool.or_false] at h; exact h
         obtain ⟨D, n, g1, g2, g3⟩ := hJ.map hL0
         refine ⟨D, n, by rw [hcnt]; omega, g2, fun j kl d' hj hins => ?_⟩
         by_cases e : j = i
         · subst e; rw [h1] at hins; cases hins
         · rw [decide_eq_false e, Bool.or_false] at hj
           exact g3 j kl d' hj hins
     · have hL0 : L 0 = true := by have := hdep e he heb; rwa [he0] at this
       obtain ⟨D, n, g1, g2, g3⟩ := hJ.map hL0
       have hcl : (List.range ops.size).countP L ≤ ops.size := Nat.le_trans List.countP_le_length (by simp)
       obtain ⟨w', r1, r2, r3⟩ := g2.update K ht (by unfold maxLen; omega) h6 h5
       refine wpOp_skip ho hgd (w' := w') (by simp [execOp, h2, h4, r1]) ?_
       rw [h3]
       have hE : Ext w0 w' := hJ.ext.grown r3 (fun k hk => by cases hk; exact Nat.le_refl _)
       refine ⟨fun j oj dj hj hoj hdj => ?_, hJ.old, hJ.size, hJ.def_, hE, (fun h => by rw [hmono 0 hL0] at h; cases h), (fun _ _ _ _ => hmono 0 hL0), fun _ => ⟨D.put kl dd, n + 1, by rw [hcnt]; omega, r2, fun j kl' d' hj hins z => ?_⟩⟩
       · by_cases e2 : j = i
         · subst e2
           rw [ho] at hoj; cases hoj
           rw [h3] at hdj; cases hdj
         · rw [decide_eq_false e2, Bool.or_false] at hj
           exact hJ.val j oj dj hj hoj hdj
       · by_cases e2 : j = i
         · subst e2
           rw [h1] at hins; cases hins
           exact atKey_put_same g2.isMap hlit _ _
         · rw [decide_eq_false e2, Bool.or_false] at hj
           rw [atKey_put_other (hkeys j i kl' kl d' dd hins h1 e2)]
           exact g3 j kl' d' hj hins z
 · intro L a w hJ hall
   obtain ⟨o', d, ho', _⟩ := h0
   have h00 : 0 < ops.size := (Array.getElem?_eq_some_iff.1 ho').1
   obtain ⟨D, n, _, h1, h2⟩ := hJ.map (hall 0 h00)
   exact hQ a w hJ.size hJ.def_ (fun i o d ho hd => hJ.val i o d (hall i (Array.getElem?_eq_some_iff.1 ho).1) ho hd) hJ.old hJ.ext ⟨D, n, h1, fun i kl d hi hins => h2 i kl d (hall i hi) hins⟩
theorem act_of (a : Act) (vs : Array Value) (hs : a.tmps.size = vs.size) (h : ∀ d, d < vs.size → a.eval (.tmp d) = vs.getD d undef) (ds : List Deferred) (hd : a.defers = ds) : a = ⟨vs, ds⟩ := by
 obtain ⟨tm, df⟩ := a
 subst hd
 congr 1
 refine Array.ext hs (fun i h1 h2 => ?_)
 have := h i h2
 simpa [Act.eval, Array.getD_eq_getD_getElem?, h1, h2] using this
noncomputable def tblElem (T : List Value) (v : Value) : Option (DataW Unit × List MemPlace) := by
 classical exact if h : ∃ k : Nat, T[k]? = some v then some (.lit (.int .i64 ((Classical.choose h : Nat) : Int)), []) else none
noncomputable def tblD (T : List Value) (v : Value) : DataW Unit := ((tblElem T v).map (·.1)).getD (.lit (.int .i64 0))
theorem tblElem_mem {T : List Value} {v : Value} (h : v ∈ T) : tblElem T v = some (tblD T v, []) := by
 obtain ⟨k, hk⟩ := List.mem_iff_getElem?.1 h
 unfold tblD tblElem
 rw [dif_pos ⟨k, hk⟩]
 rfl
theorem tblElem_inj {T : List Value} {u v : Value} {ps : List MemPlace} (hu : u ∈ T) (h : tblElem T v = some (tblD T u, ps)) : v = u := by
 have h1 := tblElem_mem hu
 unfold tblElem at h h1
 split at h
 · rename_i hv
   split at h1
   · rename_i hu'
     simp only [Option.some.injEq, Prod.mk.injEq] at h h1
     have e := h.1.trans h1.1.symm
     simp only [DataW.lit.injEq, Lit.int.injEq, true_and, Int.natCast_inj] at e
     have s1 := Classical.choose_spec hv
     have s2 := Classical.choose_spec hu'
     rw [e] at s1
     exact Option.some.inj (s1.symm.trans s2)
   · cases h1
 · cases h
def TblMap (P : Program) (kt : TypeId) (T : List Value) (w : World) (b : Nat) (es : List (Lit × Value)) : Prop := ∃ D n, w.ownsMap P kt (tblElem T) b n D ∧ ∀ p ∈ es, ∀ z, D.atKey p.1 z = tblD T p.2
theorem TblMap.look {P : Program} {kt et t : TypeId} {T : List Value} {w : World} {b : Nat} {es : List (Lit × Value)} (h : TblMap P kt T w b es) (K : Keyed P kt) (ht : P.underlying t = some (.map kt et)) {z : Value} (hz : (zeroValue et).run P w = .ok z w) (hzT : z ∈ T)
   {key : Value} {kl : Lit} {v : Value} (hkey : keyOf P kt key = some kl) (hm : (kl, v) ∈ es) (hv : v ∈ T) : (Instr.lookup t (.map (some b)) key false).run P w = .ok v w := by
 obtain ⟨D, n, h1, h2⟩ := h
 obtain ⟨u, ps, hr, hu⟩ := h1.lookup K ht hz (tblElem_mem hzT) hkey
 rw [h2 _ hm] at hu
 rw [hr, tblElem_inj hv hu]
theorem TblMap.ext {P : Program} {kt : TypeId} {T : List Value} {w w' : World} {b : Nat} {es : List (Lit × Value)} (h : TblMap P kt T w b es) (k : Ext w w') : TblMap P kt T w' b es := by
 obtain ⟨D, n, ⟨es', clock, hb, rest⟩, h2⟩ := h
 exact ⟨D, n, ⟨es', clock, k.blk hb, rest⟩, h2⟩
theorem TblMap.keep {F : Nat → Prop} {P : Program} {kt : TypeId} {T : List Value} {w w' : World} {b : Nat} {es : List (Lit × Value)} (h : TblMap P kt T w b es) (k : Keep F w w') (hb : ¬ F b) : TblMap P kt T w' b es := by
 obtain ⟨D, n, ⟨es', clock, hbb, rest⟩, h2⟩ := h
 exact ⟨D, n, ⟨es', clock, k.blk hb hbb, rest⟩, h2⟩
theorem TblMap.lt {P : Program} {kt : TypeId} {T : List Value} {w : World} {b : Nat} {es : List (Lit × Value)} (h : TblMap P kt T w b es) : b < w.heap.size := by
 obtain ⟨D, n, h1, _⟩ := h; exact h1.lt
def litOk (ops : Array Oper) (n : Nat) : Bool := (List.range ops.size).all fun i => match ops[i]? with
 | some o => o.after.all (fun e => decide (e.on < i)) && o.guard.isNone && (match o.dst with | some d => decide (d < n) && (List.range i).all (fun j => match ops[j]? with | some o' => decide (o'.dst ≠ some d) | none => true) | none => true)
 | none => true
theorem litOk_out {n : Nat} (h : litOk ops n = true) : (∀ (i : Nat) o, ops[i]? = some o → ∀ e ∈ o.after, e.on < i) ∧ (∀ (i : Nat) o, ops[i]? = some o → o.guard = none) ∧
   (∀ (i j : Nat) oi oj d, ops[i]? = some oi → ops[j]? = some oj → oi.dst = some d → oj.dst = some d → i = j) ∧ (∀ (i : Nat) o d, ops[i]? = some o → o.dst = some d → d < n) := by
 have key : ∀ (i : Nat) o, ops[i]? = some o → (o.after.all (fun e => decide (e.on < i)) && o.guard.isNone && (match o.dst with | some d => decide (d < n) && (List.range i).all (fun j => match ops[j]? with | some o' => decide (o'.dst ≠ some d) | none => true) | none => true)) = true := by
   intro i o ho
   have := List.all_eq_true.1 h i (List.mem_range.2 (Array.getElem?_eq_some_iff.1 ho).1)
   rw [ho] at this
   exact this
 have lt : ∀ (i j : Nat) oi oj d, ops[i]? = some oi → ops[j]? = some oj → oi.dst = some d → oj.dst = some d → ¬ j < i := by
   intro i j oi oj d hi hj di dj hlt
   have := key i oi hi
   rw [di] at this
   simp only [Bool.and_eq_true] at this
   have := List.all_eq_true.1 this.2.2 j (List.mem_range.2 hlt)
   rw [hj] at this
   simp [dj] at this
 refine ⟨fun i o ho e he => ?_, fun i o ho => ?_, fun i j oi oj d hi hj di dj => ?_, fun i o d ho hd => ?_⟩
 · have := key i o ho
   simp only [Bool.and_eq_true, Array.all_eq_true_iff_forall_mem, decide_eq_true_eq] at this
   exact this.1.1 e he
 · have := key i o ho
   simp only [Bool.and_eq_true, Option.isNone_iff_eq_none] at this
   exact this.1.2
 · have h1 := lt i j oi oj d hi hj di dj
   have h2 := lt j i oj oi d hj hi dj di
   omega
 · have := key i o ho
   rw [hd] at this
   simp only [Bool.and_eq_true, decide_eq_true_eq] at this
   exact this.2.1
def noDst (ops : Array Oper) (d : Nat) : Bool := ops.all fun o => decide (o.dst ≠ some d)
theorem noDst_out {d : Nat} (h : noDst ops d = true) : ∀ (i : Nat) o, ops[i]? = some o → o.dst ≠ some d := by
 intro i o ho
 have := (Array.all_eq_true_iff_forall_mem.1 h) o (Array.mem_of_getElem? ho)
 simpa using this
end
end KB
namespace P5
variable {β γ : Type}
def ltN (a b : ByteArray) : Prop := Go.Lib.compareBytes a.data.toList b.data.toList < 0
instance (a b : ByteArray) : Decidable (ltN a b) := inferInstanceAs (Decidable (_ < _))
theorem cb_refl : ∀ a : List UInt8, Go.Lib.compareBytes a a = 0
 | [] => rfl
 | a :: as1 => by rw [Go.Lib.compareBytes, if_neg (UInt8.lt_irrefl a), if_neg (UInt8.lt_irrefl a)]; exact cb_refl as1
theorem cb_eq : ∀ a b : List UInt8, Go.Lib.compareBytes a b = 0 → a = b
 | [], [] => fun _ => rfl
 | [], _ :: _ => fun h => by simp [Go.Lib.compareBytes] at h
 | _ :: _, [] => fun h => by simp [Go.Lib.compareBytes] at h
 | a :: as1, b :: bs => fun h => by
   rw [Go.Lib.compareBytes] at h
   by_cases h1 : a < b
   · rw [if_pos h1] at h; exact absurd h (by decide)
   · rw [if_neg h1] at h
     by_cases h2 : b < a
     · rw [if_pos h2] at h; exact absurd h (by decide)
     · rw [if_neg h2] at h
       have : a = b := by
         apply UInt8.toNat_inj.1
         simp only [UInt8.lt_iff_toNat_lt] at h1 h2; omega
       rw [this, cb_eq as1 bs h]
theorem cb_lt_trans : ∀ a b d : List UInt8, Go.Lib.compareBytes a b < 0 → Go.Lib.compareBytes b d < 0 → Go.Lib.compareBytes a d < 0
 | [], [], _ => fun h _ => h.elim |> fun _ => by simp [Go.Lib.compareBytes] at h
 | [], _ :: _, [] => fun _ h => by simp [Go.Lib.compareBytes] at h
 | [], _ :: _, _ :: _ => fun _ _ => by simp [Go.Lib.compareBytes]
 | _ :: _, [], _ => fun h _ => by simp [Go.Lib.compareBytes] at h
 | _ :: _, _ :: _, [] => fun _ h => by simp [Go.Lib.compareBytes] at h
 | a :: as1, b :: bs, d :: ds => fun h g => by
   have ih := cb_lt_trans as1 bs ds
   rw [Go.Lib.compareBytes] at h g ⊢
   simp only [UInt8.lt_iff_toNat_lt] at h g ⊢
   rcases Nat.lt_trichotomy a.toNat b.toNat with e | e | e
   · rcases Nat.lt_trichotomy b.toNat d.toNat with f | f | f
     · rw [if_pos (by omega)]; decide
     · rw [if_pos (by omega)]; decide
     · rw [if_neg (by omega), if_pos f] at g; exact absurd g (by decide)
   · rw [if_neg (by omega), if_neg (by omega)] at h
     rcases Nat.lt_trichotomy b.toNat d.toNat with f | f | f
     · rw [if_pos (by omega)]; decide
     · rw [if_neg (by omega), if_neg (by omega)] at g ⊢; exact ih h g
     · rw [if_neg (by omega), if_pos f] at g; exact absurd g (by decide)
   · rw [if_neg (by omega), if_pos e] at h; exact absurd h (by decide)
theorem cb_total : ∀ a b : List UInt8, 0 < Go.Lib.compareBytes a b → Go.Lib.compareBytes b a < 0
 | [], [] => fun h => by simp [Go.Lib.compareBytes] at h
 | [], _ :: _ => fun h => by simp [Go.Lib.compareBytes] at h
 | _ :: _, [] => fun _ => by simp [Go.Lib.compareBytes]
 | a :: as1, b :: bs => fun h => by
   have ih := cb_total as1 bs
   rw [Go.Lib.compareBytes] at h ⊢
   simp only [UInt8.lt_iff_toNat_lt] at h ⊢
   rcases Nat.lt_trichotomy a.toNat b.toNat with e | e | e
   · rw [if_pos e] at h; exact absurd h (by decide)
   · rw [if_neg (by omega), if_neg (by omega)] at h ⊢; exact ih h
   · rw [if_pos e]; decide
theorem ba_eq {a b : ByteArray} (h : a.data.toList = b.data.toList) : a = b := by
 cases a; cases b; simp at h; rw [h]
theorem ltN_irrefl (a : ByteArray) : ¬ ltN a a := by unfold ltN; rw [cb_refl]; decide
theorem ltN_trans {a b d : ByteArray} (h : ltN a b) (g : ltN b d) : ltN a d := cb_lt_trans _ _ _ h g
theorem ltN_total {a b : ByteArray} (h : ¬ ltN a b) (g : a ≠ b) : ltN b a := by
 unfold ltN at *
 rcases Int.lt_trichotomy (Go.Lib.compareBytes a.data.toList b.data.toList) 0 with e | e | e
 · exact absurd e h
 · exact absurd (ba_eq (cb_eq _ _ e)) g
 · exact cb_total _ _ e
def putA (n : ByteArray) (x : β) : List (ByteArray × β) → List (ByteArray × β)
 | [] => [(n, x)]
 | (m, y) :: l => if n = m then (n, x) :: l else if ltN n m then (n, x) :: (m, y) :: l else (m, y) :: putA n x l
def delA (n : ByteArray) (l : List (ByteArray × β)) : List (ByteArray × β) := l.filter fun p => decide (p.1 ≠ n)
def getA (n : ByteArray) : List (ByteArray × β) → Option β
 | [] => none
 | (m, y) :: l => if n = m then some y else getA n l
abbrev SrtA (l : List (ByteArray × β)) : Prop := l.Pairwise fun p q => ltN p.1 q.1
theorem getA_put (n m : ByteArray) (x : β) : ∀ l, getA m (putA n x l) = if m = n then some x else getA m l
 | [] => by simp [putA, getA]
 | (k, y) :: l => by
   have ih := getA_put n m x l
   rw [putA]
   by_cases h : n = k
   · subst h
     rw [if_pos rfl, getA, getA]
     by_cases e : m = n
     · rw [if_pos e, if_pos e]
     · rw [if_neg e, if_neg e, if_neg e]
   · rw [if_neg h]
     by_cases g : ltN n k
     · rw [if_pos g, getA]
     · rw [if_neg g, getA, ih]
       by_cases e : m = n
       · subst e; rw [if_neg h, if_pos rfl, if_pos rfl]
       · rw [if_neg e, if_neg e, getA]
theorem getA_del (n m : ByteArray) : ∀ l : List (ByteArray × β), getA m (delA n l) = if m = n then none else getA m l
 | [] => by simp [delA, getA]
 | (k, y) :: l => by
   have ih := getA_del n m l
   rw [delA] at ih ⊢
   rw [List.filter_cons]
   by_cases h : k = n
   · subst h
     rw [if_neg (by simp), ih]
     by_cases e : m = k
     · rw [if_pos e, if_pos e]
     · rw [if_neg e, if_neg e, getA, if_neg e]
   · rw [if_pos (by simpa using h), getA, getA, ih]
     by_cases e : m = n
     · subst e; rw [if_pos rfl, if_neg (fun q => h q.symm), if_pos rfl]
     · rw [if_neg e, if_neg e]
theorem mem_putA {n : ByteArray} {x : β} {p : ByteArray × β} : ∀ {l}, p ∈ putA n x l → p = (n, x) ∨ p ∈ l
 | [], h => by simp [putA] at h; exact .inl h
 | (m, y) :: l, h => by
   rw [putA] at h
   split at h
   · rcases List.mem_cons.1 h with e | e
     · exact .inl e
     · exact .inr (List.mem_cons_of_mem _ e)
   · split at h
     · rcases List.mem_cons.1 h with e | e
       · exact .inl e
       · exact .inr e
     · rcases List.mem_cons.1 h with e | e
       · exact .inr (by rw [e]; exact List.mem_cons_self ..)
       · rcases mem_putA e with e | e
         · exact .inl e
         · exact .inr (List.mem_cons_of_mem _ e)
theorem srt_put (n : ByteArray) (x : β) : ∀ l, SrtA l → SrtA (putA n x l)
 | [], _ => by simp [putA]
 | (m, y) :: l, h => by
   obtain ⟨h1, h2⟩ := List.pairwise_cons.1 h
   rw [putA]
   by_cases e : n = m
   · subst e; rw [if_pos rfl]; exact List.pairwise_cons.2 ⟨h1, h2⟩
   · rw [if_neg e]
     by_cases g : ltN n m
     · rw [if_pos g]
       refine List.pairwise_cons.2 ⟨fun p hp => ?_, h⟩
       rcases List.mem_cons.1 hp with q | q
       · rw [q]; exact g
       · exact ltN_trans g (h1 p q)
     · rw [if_neg g]
       refine List.pairwise_cons.2 ⟨fun p hp => ?_, srt_put n x l h2⟩
       rcases mem_putA hp with q | q
       · rw [q]; exact ltN_total g e
       · exact h1 p q
theorem srt_del (n : ByteArray) (l : List (ByteArray × β)) (h : SrtA l) : SrtA (delA n l) := h.filter _
theorem getA_mem {n : ByteArray} {x : β} : ∀ {l : List (ByteArray × β)}, getA n l = some x → (n, x) ∈ l
 | [], h => by cases h
 | (m, y) :: l, h => by
   rw [getA] at h
   split at h
   · rename_i e; cases h; rw [e]; exact List.mem_cons_self ..
   · exact List.mem_cons_of_mem _ (getA_mem h)
theorem mem_getA {n : ByteArray} {x : β} : ∀ {l : List (ByteArray × β)}, SrtA l → (n, x) ∈ l → getA n l = some x
 | [], _, h => by cases h
 | (m, y) :: l, hs, h => by
   obtain ⟨h1, h2⟩ := List.pairwise_cons.1 hs
   rw [getA]
   rcases List.mem_cons.1 h with e | e
   · cases e; rw [if_pos rfl]
   · have hne : ¬ n = m := fun q => by
       have := h1 _ e
       rw [q] at this
       exact ltN_irrefl _ this
     rw [if_neg hne]
     exact mem_getA h2 e
theorem getA_none {n : ByteArray} {l : List (ByteArray × β)} : getA n l = none ↔ n ∉ l.map (·.1) := by
 induction l with
 | nil => simp [getA]
 | cons p l ih =>
   obtain ⟨m, y⟩ := p
   rw [getA, List.map_cons, List.mem_cons]
   by_cases e : n = m
   · subst e; simp
   · rw [if_neg e, ih]; simp [e]
theorem put_length (n : ByteArray) (x : β) : ∀ l : List (ByteArray × β), SrtA l → (putA n x l).length = if (getA n l).isSome then l.length else l.length + 1
 | [], _ => by simp [putA, getA]
 | (m, y) :: l, h => by
   obtain ⟨h1, h2⟩ := List.pairwise_cons.1 h
   have ih := put_length n x l h2
   rw [putA, getA]
   by_cases e : n = m
   · rw [if_pos e, if_pos e]; simp
   · rw [if_neg e, if_neg e]
     by_cases g : ltN n m
     · rw [if_pos g]
       have : getA n l = none := getA_none.2 (fun hm => by
         obtain ⟨p, hp, hpn⟩ := List.mem_map.1 hm
         have := h1 p hp
         rw [hpn] at this
         exact ltN_irrefl _ (ltN_trans g this))
       rw [this]; simp
     · rw [if_neg g, List.length_cons, ih]; split <;> simp
theorem del_length (n : ByteArray) (l : List (ByteArray × β)) : (delA n l).length ≤ l.length := List.length_filter_le _ _
theorem del_length' (n : ByteArray) : ∀ l : List (ByteArray × β), SrtA l → (delA n l).length + (if (getA n l).isSome then 1 else 0) = l.length
 | [], _ => by simp [delA, getA]
 | (m, y) :: l, h => by
   obtain ⟨h1, h2⟩ := List.pairwise_cons.1 h
   have ih := del_length' n l h2
   rw [delA] at ih ⊢
   rw [getA, List.filter_cons]
   by_cases e : n = m
   · subst e
     have : getA n l = none := getA_none.2 (fun hm => by
       obtain ⟨p, hp, hpn⟩ := List.mem_map.1 hm
       have := h1 p hp
       rw [hpn] at this
       exact ltN_irrefl _ this)
     rw [this] at ih
     rw [if_neg (by simp), if_pos rfl]
     simp at ih ⊢
     exact ih
   · rw [if_pos (by simpa using fun q => e q.symm), if_neg e, List.length_cons, List.length_cons]
     omega
def total (f : β → Nat) (l : List (ByteArray × β)) : Nat := (l.map fun p => f p.2).sum
theorem total_put (f : β → Nat) (n : ByteArray) (x : β) : ∀ l : List (ByteArray × β), SrtA l → total f (putA n x l) + (match getA n l with | some y => f y | none => 0) = total f l + f x
 | [], _ => by simp [putA, getA, total]
 | (m, y) :: l, h => by
   obtain ⟨h1, h2⟩ := List.pairwise_cons.1 h
   have ih := total_put f n x l h2
   rw [putA, getA]
   by_cases e : n = m
   · rw [if_pos e, if_pos e]; simp [total]; omega
   · rw [if_neg e, if_neg e]
     by_cases g : ltN n m
     · rw [if_pos g]
       have : getA n l = none := getA_none.2 (fun hm => by
         obtain ⟨p, hp, hpn⟩ := List.mem_map.1 hm
         have := h1 p hp
         rw [hpn] at this
         exact ltN_irrefl _ (ltN_trans g this))
       rw [this]; simp [total]; omega
     · rw [if_neg g]; simp only [total, List.map_cons, List.sum_cons] at ih ⊢; omega
theorem total_del (f : β → Nat) (n : ByteArray) : ∀ l : List (ByteArray × β), total f (delA n l) ≤ total f l
 | [] => by simp [delA, total]
 | (m, y) :: l => by
   have ih := total_del f n l
   rw [delA] at ih ⊢
   rw [List.filter_cons]
   split
   · simp only [total, List.map_cons, List.sum_cons] at ih ⊢; omega
   · simp only [total, List.map_cons, List.sum_cons] at ih ⊢; omega
theorem getA_map (f : β → γ) (n : ByteArray) : ∀ l : List (ByteArray × β), getA n (l.map fun p => (p.1, f p.2)) = (getA n l).map f
 | [] => rfl
 | (m, y) :: l => by
   rw [List.map_cons, getA, getA, getA_map f n l]
   split <;> rfl
theorem put_map (f : β → γ) (n : ByteArray) (x : β) : ∀ l : List (ByteArray × β), (putA n x l).map (fun p => (p.1, f p.2)) = putA n (f x) (l.map fun p => (p.1, f p.2))
 | [] => rfl
 | (m, y) :: l => by
   have ih := put_map f n x l
   rw [putA, List.map_cons, putA]
   split
   · rfl
   · split
     · rfl
     · rw [List.map_cons, ih]
theorem del_map (f : β → γ) (n : ByteArray) (l : List (ByteArray × β)) : (delA n l).map (fun p => (p.1, f p.2)) = delA n (l.map fun p => (p.1, f p.2)) := by
 rw [delA, delA, List.filter_map]; rfl
theorem srt_map (f : β → γ) {l : List (ByteArray × β)} (h : SrtA l) : SrtA (l.map fun p => (p.1, f p.2)) := List.pairwise_map.2 h
end P5
namespace K33
open Go Go.RowKit Go.Maps
open KB P5
theorem laidOut : laidOutB Tryz.prog = true := by kernel_rfl
theorem law : Keyed Tryz.prog 211 := Keyed.of_law (deep_law_laid laidOut (m := 2) (by decide) (of_decide_eq_true (by kernel_rfl)) (by kernel_rfl) (by kernel_rfl))
theorem kt : Tryz.prog.keyType 211 = true := by kernel_rfl
theorem cellsW : Tryz.prog.cellsOf 211 = 1 := by kernel_rfl
theorem cellsS : Tryz.prog.cellsOf 9 = 1 := by kernel_rfl
theorem tysz : ∃ n, Tryz.prog.types.size = n + 1 := ⟨490, by kernel_rfl⟩
end K33
namespace K66
open Go Go.RowKit Go.Maps
open KB K1 K2 K3 K5 K33
theorem kindLaw : Keyed Tryz.prog 373 := Keyed.of_law (deep_law_laid laidOut (m := 2) (by decide) (of_decide_eq_true (by kernel_rfl)) (by kernel_rfl) (by kernel_rfl))
def kf (m : Int) (b : Bool) : Lit := .string (keyBytes [.int .i64 m, .bool b])
abbrev kV (m : Int) (b : Bool) : Value := .agg #[.int .i64 m, .bool b]
theorem kf1t : keyOf Tryz.prog 373 (kV 1 true) = some (kf 1 true) := by kernel_rfl
theorem kf1f : keyOf Tryz.prog 373 (kV 1 false) = some (kf 1 false) := by kernel_rfl
theorem kf2t : keyOf Tryz.prog 373 (kV 2 true) = some (kf 2 true) := by kernel_rfl
theorem kf2f : keyOf Tryz.prog 373 (kV 2 false) = some (kf 2 false) := by kernel_rfl
theorem kf3t : keyOf Tryz.prog 373 (kV 3 true) = some (kf 3 true) := by kernel_rfl
theorem kf3f : keyOf Tryz.prog 373 (kV 3 false) = some (kf 3 false) := by kernel_rfl
abbrev fLast : Value := .func (.func 338) #[] #[]
abbrev fAdd : Value := .func (.func 339) #[] #[]
theorem zeroFn (w : World) : (zeroValue 199).run Tryz.prog w = .ok .nilFunc w := by kernel_rfl
abbrev TJ : List Value := [.nilFunc, fLast, fAdd]
abbrev JES : List (Lit × Value) := [(kf 1 true, fLast), (kf 1 false, fLast), (kf 2 true, fLast), (kf 2 false, fLast), (kf 3 true, fLast), (kf 3 false, fAdd)]
def jVal (b : Nat) : Nat → Value
 | 0 => .map (some b)
 | 1 => kV 1 true
 | 2 => fLast
 | 4 => kV 1 false
 | 5 => fLast
 | 7 => kV 2 true
 | 8 => fLast
 | 10 => kV 2 false
 | 11 => fLast
 | 13 => kV 3 true
 | 14 => fLast
 | 16 => kV 3 false
 | 18 => .map (some b)
 | 19 => .map (some b)
 | _ => undef
noncomputable def jIns : Nat → Option (Lit × DataW Unit)
 | 3 => some (kf 1 true, tblD TJ fLast)
 | 6 => some (kf 1 false, tblD TJ fLast)
 | 9 => some (kf 2 true, tblD TJ fLast)
 | 12 => some (kf 2 false, tblD TJ fLast)
 | 15 => some (kf 3 true, tblD TJ fLast)
 | 17 => some (kf 3 false, tblD TJ fAdd)
 | _ => none
theorem kOk (m : Int) (b : Bool) (hm : m = 1 ∨ m = 2 ∨ m = 3) : keyOf Tryz.prog 373 (kV m b) = some (kf m b) := by
 rcases hm with rfl | rfl | rfl <;> cases b
 all_goals first | exact kf1f | exact kf1t | exact kf2f | exact kf2t | exact kf3f | exact kf3t
theorem kf_inj {m m' : Int} {b b' : Bool} (hm : m = 1 ∨ m = 2 ∨ m = 3) (hm' : m' = 1 ∨ m' = 2 ∨ m' = 3) (h : kf m b = kf m' b') : m = m' ∧ b = b' := by
 have := kindLaw.inj (kOk m b hm) (by rw [kOk m' b' hm', h])
 simpa using this
theorem jIns_ne (i j : Nat) (k k' : Lit) (d d' : DataW Unit) (hi : jIns i = some (k, d)) (hj : jIns j = some (k', d')) (hne : ¬ i = j) : ¬ k = k' := by
 intro hk
 unfold jIns at hi hj
 split at hi
 all_goals first | (cases hi; done) | skip
 all_goals split at hj
 all_goals first | (cases hj; done) | skip
 all_goals first | exact absurd rfl hne | (cases hi; cases hj; have := kf_inj (by simp) (by simp) hk; simp at this)
theorem joinsC (w : World) : Calls Tryz.prog 294 #[] w fun e w' => e = .returned (.map (some w.heap.size)) ∧ TblMap Tryz.prog 373 TJ w' w.heap.size JES ∧ Ext w w' := by
 go_enter Tryz.func294, Tryz.ntmps294
 go_wp2_with (fail)
 refine lit_region (by kernel_rfl) kindLaw (tblElem TJ) (jVal w.heap.size) jIns Tryz.underlying370 (by decide) (litOk_out (n := 15) (by kernel_rfl)).1 (litOk_out (n := 15) (by kernel_rfl)).2.1 (litOk_out (n := 15) (by kernel_rfl)).2.2.1 (litOk_out (n := 15) (by kernel_rfl)).2.2.2 jIns_ne ⟨_, _, rfl, rfl, rfl, rfl, rfl⟩ ?_ ?_
 · intro i o ho hi0 a hv hold
   have h1 : a.eval (.tmp 1) = fLast := hold 1 (noDst_out (by kernel_rfl))
   match i, ho with
   | 0, ho => exact absurd rfl hi0
   | 1, ho =>
     simp only [List.getElem?_toArray, List.getElem?_cons_succ, List.getElem?_cons_zero, Option.some.injEq] at ho
     subst ho
     exact .inl ⟨rfl, ⟨_, rfl⟩, fun w => by kernel_rfl⟩
   | 2, ho =>
     simp only [List.getElem?_toArray, List.getElem?_cons_succ, List.getElem?_cons_zero, Option.some.injEq] at ho
     subst ho
     exact .inl ⟨rfl, ⟨_, rfl⟩, fun w => by rw [BigFrame.run_move _ rfl, h1]; rfl⟩
   | 3, ho =>
     simp only [List.getElem?_toArray, List.getElem?_cons_succ, List.getElem?_cons_zero, Option.some.injEq] at ho
     subst ho
     have e0 := hv _ (Array.mem_of_getElem? (i := 0) rfl) rfl _ _ rfl rfl
     have e1 := hv _ (Array.mem_of_getElem? (i := 1) rfl) rfl _ _ rfl rfl
     have e2 := hv _ (Array.mem_of_getElem? (i := 2) rfl) rfl _ _ rfl rfl
     exact .inr ⟨_, _, _, _, _, rfl, trivial, rfl, rfl, e0, ⟨[], by rw [e2]; exact tblElem_mem (by simp [TJ, jVal])⟩, by rw [e1]; exact kf1t, _, Array.mem_of_getElem? (i := 0) rfl, rfl, rfl⟩
   | 4, ho =>
     simp only [List.getElem?_toArray, List.getElem?_cons_succ, List.getElem?_cons_zero, Option.some.injEq] at ho
     subst ho
     exact .inl ⟨rfl, ⟨_, rfl⟩, fun w => by kernel_rfl⟩
   | 5, ho =>
     simp only [List.getElem?_toArray, List.getElem?_cons_succ, List.getElem?_cons_zero, Option.some.injEq] at ho
     subst ho
     exact .inl ⟨rfl, ⟨_, rfl⟩, fun w => by rw [BigFrame.run_move _ rfl, h1]; rfl⟩
   | 6, ho =>
     simp only [List.getElem?_toArray, List.getElem?_cons_succ, List.getElem?_cons_zero, Option.some.injEq] at ho
     subst ho
     have e0 := hv _ (Array.mem_of_getElem? (i := 0) rfl) rfl _ _ rfl rfl
     have e1 := hv _ (Array.mem_of_getElem? (i := 1) rfl) rfl _ _ rfl rfl
     have e2 := hv _ (Array.mem_of_getElem? (i := 2) rfl) rfl _ _ rfl rfl
     exact .inr ⟨_, _, _, _, _, rfl, trivial, rfl, rfl, e0, ⟨[], by rw [e2]; exact tblElem_mem (by simp [TJ, jVal])⟩, by rw [e1]; exact kf1f, _, Array.mem_of_getElem? (i := 0) rfl, rfl, rfl⟩
   | 7, ho =>
     simp only [List.getElem?_toArray, List.getElem?_cons_succ, List.getElem?_cons_zero, Option.some.injEq] at ho
     subst ho
     exact .inl ⟨rfl, ⟨_, rfl⟩, fun w => by kernel_rfl⟩
   | 8, ho =>
     simp only [List.getElem?_toArray, List.getElem?_cons_succ, List.getElem?_cons_zero, Option.some.injEq] at ho
     subst ho
     exact .inl ⟨rfl, ⟨_, rfl⟩, fun w => by rw [BigFrame.run_move _ rfl, h1]; rfl⟩
   | 9, ho =>
     simp only [List.getElem?_toArray, List.getElem?_cons_succ, List.getElem?_cons_zero, Option.some.injEq] at ho
     subst ho
     have e0 := hv _ (Array.mem_of_getElem? (i := 0) rfl) rfl _ _ rfl rfl
     have e1 := hv _ (Array.mem_of_getElem? (i := 1) rfl) rfl _ _ rfl rfl
     have e2 := hv _ (Array.mem_of_getElem? (i := 2) rfl) rfl _ _ rfl rfl
     exact .inr ⟨_, _, _, _, _, rfl, trivial, rfl, rfl, e0, ⟨[], by rw [e2]; exact tblElem_mem (by simp [TJ, jVal])⟩, by rw [e1]; exact kf2t, _, Array.mem_of_getElem? (i := 0) rfl, rfl, rfl⟩
   | 10, ho =>
     simp only [List.getElem?_toArray, List.getElem?_cons_succ, List.getElem?_cons_zero, Option.some.injEq] at ho
     subst ho
     exact .inl ⟨rfl, ⟨_, rfl⟩, fun w => by kernel_rfl⟩
   | 11, ho =>
     simp only [List.getElem?_toArray, List.getElem?_cons_succ, List.getElem?_cons_zero, Option.some.injEq] at ho
     subst ho
     exact .inl ⟨rfl, ⟨_, rfl⟩, fun w => by rw [BigFrame.run_move _ rfl, h1]; rfl⟩
   | 12, ho =>
     simp only [List.getElem?_toArray, List.getElem?_cons_succ, List.getElem?_cons_zero, Option.some.injEq] at ho
     subst ho
     have e0 := hv _ (Array.mem_of_getElem? (i := 0) rfl) rfl _ _ rfl rfl
     have e1 := hv _ (Array.mem_of_getElem? (i := 1) rfl) rfl _ _ rfl rfl
     have e2 := hv _ (Array.mem_of_getElem? (i := 2) rfl) rfl _ _ rfl rfl
     exact .inr ⟨_, _, _, _, _, rfl, trivial, rfl, rfl, e0, ⟨[], by rw [e2]; exact tblElem_mem (by simp [TJ, jVal])⟩, by rw [e1]; exact kf2f, _, Array.mem_of_getElem? (i := 0) rfl, rfl, rfl⟩
   | 13, ho =>
     simp only [List.getElem?_toArray, List.getElem?_cons_succ, List.getElem?_cons_zero, Option.some.injEq] at ho
     subst ho
     exact .inl ⟨rfl, ⟨_, rfl⟩, fun w => by kernel_rfl⟩
   | 14, ho =>
     simp only [List.getElem?_toArray, List.getElem?_cons_succ, List.getElem?_cons_zero, Option.some.injEq] at ho
     subst ho
     exact .inl ⟨rfl, ⟨_, rfl⟩, fun w => by rw [BigFrame.run_move _ rfl, h1]; rfl⟩
   | 15, ho =>
     simp only [List.getElem?_toArray, List.getElem?_cons_succ, List.getElem?_cons_zero, Option.some.injEq] at ho
     subst ho
     have e0 := hv _ (Array.mem_of_getElem? (i := 0) rfl) rfl _ _ rfl rfl
     have e1 := hv _ (Array.mem_of_getElem? (i := 1) rfl) rfl _ _ rfl rfl
     have e2 := hv _ (Array.mem_of_getElem? (i := 2) rfl) rfl _ _ rfl rfl
     exact .inr ⟨_, _, _, _, _, rfl, trivial, rfl, rfl, e0, ⟨[], by rw [e2]; exact tblElem_mem (by simp [TJ, jVal])⟩, by rw [e1]; exact kf3t, _, Array.mem_of_getElem? (i := 0) rfl, rfl, rfl⟩
   | 16, ho =>
     simp only [List.getElem?_toArray, List.getElem?_cons_succ, List.getElem?_cons_zero, Option.some.injEq] at ho
     subst ho
     exact .inl ⟨rfl, ⟨_, rfl⟩, fun w => by kernel_rfl⟩
   | 17, ho =>
     simp only [List.getElem?_toArray, List.getElem?_cons_succ, List.getElem?_cons_zero, Option.some.injEq] at ho
     subst ho
     have e0 := hv _ (Array.mem_of_getElem? (i := 0) rfl) rfl _ _ rfl rfl
     have e1 := hv _ (Array.mem_of_getElem? (i := 1) rfl) rfl _ _ rfl rfl
     exact .inr ⟨_, _, _, _, _, rfl, trivial, rfl, rfl, e0, ⟨[], (show tblElem TJ fAdd = some (tblD TJ fAdd, []) from tblElem_mem (by simp [TJ]))⟩, by rw [e1]; exact kf3f, _, Array.mem_of_getElem? (i := 0) rfl, rfl, rfl⟩
   | 18, ho =>
     simp only [List.getElem?_toArray, List.getElem?_cons_succ, List.getElem?_cons_zero, Option.some.injEq] at ho
     subst ho
     have e0 := hv _ (Array.mem_of_getElem? (i := 0) rfl) rfl _ _ rfl rfl
     exact .inl ⟨rfl, ⟨_, rfl⟩, fun w => by rw [BigFrame.run_move _ rfl, e0]; rfl⟩
   | 19, ho =>
     simp only [List.getElem?_toArray, List.getElem?_cons_succ, List.getElem?_cons_zero, Option.some.injEq] at ho
     subst ho
     have e0 := hv _ (Array.mem_of_getElem? (i := 0) rfl) rfl _ _ rfl rfl
     exact .inl ⟨rfl, ⟨_, rfl⟩, fun w => by rw [BigFrame.run_assign _ rfl, e0]; rfl⟩
   | k + 20, ho => exact absurd ho (by simp)
 · intro a w' hs hd hv hold hE hD
   have ha := act_of a #[.map (some w.heap.size), fLast, .map (some w.heap.size), kV 1 true, fLast, kV 1 false, fLast, kV 2 true, fLast, kV 2 false, fLast, kV 3 true, fLast, kV 3 false, .map (some w.heap.size)] hs (fun d hdd => by
     match d, hdd with
     | 0, _ => exact hv 19 _ _ rfl rfl
     | 1, _ => exact hold 1 (noDst_out (by kernel_rfl))
     | 2, _ => exact hv 0 _ _ rfl rfl
     | 3, _ => exact hv 1 _ _ rfl rfl
     | 4, _ => exact hv 2 _ _ rfl rfl
     | 5, _ => exact hv 4 _ _ rfl rfl
     | 6, _ => exact hv 5 _ _ rfl rfl
     | 7, _ => exact hv 7 _ _ rfl rfl
     | 8, _ => exact hv 8 _ _ rfl rfl
     | 9, _ => exact hv 10 _ _ rfl rfl
     | 10, _ => exact hv 11 _ _ rfl rfl
     | 11, _ => exact hv 13 _ _ rfl rfl
     | 12, _ => exact hv 14 _ _ rfl rfl
     | 13, _ => exact hv 16 _ _ rfl rfl
     | 14, _ => exact hv 18 _ _ rfl rfl
     | k + 15, h => exact absurd h (by simp)) [] hd
   rw [ha]
   obtain ⟨D, n, h1, h2⟩ := hD
   have hT : TblMap Tryz.prog 373 TJ w' w.heap.size JES := ⟨D, n, h1, fun p hp z => by
     simp only [JES, List.mem_cons, List.not_mem_nil, or_false] at hp
     rcases hp with rfl | rfl | rfl | rfl | rfl | rfl
     · exact h2 3 _ _ (by decide) rfl z
     · exact h2 6 _ _ (by decide) rfl z
     · exact h2 9 _ _ (by decide) rfl z
     · exact h2 12 _ _ (by decide) rfl z
     · exact h2 15 _ _ (by decide) rfl z
     · exact h2 17 _ _ (by decide) rfl z⟩
   go_wp2
   go_ret
   exact ⟨rfl, hT, hE⟩
end K66
end Go.Proofs.YtbjeejimedhniaaGreatDoor
