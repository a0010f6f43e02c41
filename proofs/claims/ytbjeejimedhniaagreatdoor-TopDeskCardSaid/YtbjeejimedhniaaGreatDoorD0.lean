/- Contracts of the program's functions, as the walks of the law use them. -/
import Derived.WalkKit
import Derived.KernelRfl
import Derived.Below
import Derived.OwnWalk
import Derived.Laws.Rows
import Derived.Laws.AppendOwn
import Derived.Laws.AppendOwnNone
import Derived.Laws.CopyOwn
import Derived.Maps.AppendAt
import Derived.Deep.Draws
import Derived.Deep.QuietTactic
import Derived.BigQuiet
import Derived.Deep.RegionHeld3
import Derived.WalkLawsBesides
import Derived.WalkSpells
import Derived.Handy
import Derived.Test.YtbjeejimedhniaaGreatDoorProg
import Derived.Shelf.Small.Strs
set_option linter.unusedVariables false
set_option linter.unusedSimpArgs false
set_option maxRecDepth 100000
set_option maxHeartbeats 1000000
namespace Go.Proofs.YtbjeejimedhniaaGreatDoor
namespace KB
open Go Go.RowKit

structure As (p : Prop) : Prop where
 mk :: (out : p)
structure Keep (F : Nat → Prop) (w w' : World) : Prop where
 os : w'.os = w.os
 tape : w'.tape = w.tape
 output : w'.output = w.output
 size : w.heap.size ≤ w'.heap.size
 block : ∀ k, k < w.heap.size → ¬ F k → w'.heap[k]? = w.heap[k]?
theorem Keep.refl (F : Nat → Prop) (w : World) : Keep F w w := ⟨rfl, rfl, rfl, Nat.le_refl _, fun _ _ _ => rfl⟩
theorem Keep.trans {F : Nat → Prop} {a b c : World} (h : Keep F a b) (k : Keep F b c) : Keep F a c :=
 ⟨k.os.trans h.os, k.tape.trans h.tape, k.output.trans h.output, Nat.le_trans h.size k.size, fun i hi hf => (k.block i (Nat.lt_of_lt_of_le hi h.size) hf).trans (h.block i hi hf)⟩
theorem Keep.mono {F G : Nat → Prop} {w w' : World} (h : Keep F w w') (hg : ∀ k, k < w.heap.size → F k → G k) : Keep G w w' :=
 ⟨h.os, h.tape, h.output, h.size, fun k hk hn => h.block k hk (fun hf => hn (hg k hk hf))⟩
def Ext (w w' : World) : Prop := Below w.heap.size w w'
theorem Ext.refl (w : World) : Ext w w := Below.refl _ _
theorem Ext.size {w w' : World} (h : Ext w w') : w.heap.size ≤ w'.heap.size := Below.size h
theorem Ext.block {w w' : World} (h : Ext w w') {k : Nat} (hk : k < w.heap.size) : w'.heap[k]? = w.heap[k]? := Below.block h k hk
theorem Ext.trans {a b c : World} (h : Ext a b) (k : Ext b c) : Ext a c :=
 Below.trans h ⟨k.os, k.tape, k.output, Below.size k, fun i hi => Below.block k i (Nat.lt_of_lt_of_le hi h.size)⟩
theorem Ext.alloc {w W : World} (h : Ext w W) (o : Obj) : Ext w (W.alloc o) := Below.alloc h h.size o
theorem Ext.drew {w W : World} (h : Ext w W) : Ext w W.drew := Below.drew h
theorem Ext.drewN {w W : World} (h : Ext w W) (n : Nat) : Ext w (W.drewN n) := Below.trans h ⟨rfl, rfl, rfl, Nat.le_refl _, fun _ _ => rfl⟩
theorem XE {w w' : World} (h : Ext w w' := by (repeat (first | with_reducible refine Ext.drew ?_ | with_reducible refine Ext.drewN ?_ _ | with_reducible refine Ext.alloc ?_ _)); first | with_reducible assumption | with_reducible exact Ext.refl _) : Ext w w' := h
theorem Ext.setCell {w W : World} (h : Ext w W) {a : Addr} (ha : w.heap.size ≤ a.block) (v : Value) : Ext w (W.setCell a v) := Below.setCell h ha v
theorem Ext.grown {w W W' : World} {row : Option Nat} (h : Ext w W) (hg : W.grownBy W' row) (hr : ∀ k, row = some k → w.heap.size ≤ k) : Ext w W' := Below.grown h hg h.size hr
theorem Ext.keep {w w' : World} (h : Ext w w') (F : Nat → Prop) : Keep F w w' := ⟨h.os, h.tape, h.output, Below.size h, fun k hk _ => Below.block h k hk⟩
theorem Ext.cell {w w' : World} (h : Ext w w') {a : Addr} {v : Value} (hc : w.cell? a = some v) : w'.cell? a = some v := (Below.cell h (World.block_lt_of_cell? w a hc)).trans hc
theorem Ext.blk {w w' : World} (h : Ext w w') {k : Nat} {o : Obj} (hc : w.heap[k]? = some o) : w'.heap[k]? = some o := (h.block (Array.getElem?_eq_some_iff.1 hc).1).trans hc
theorem Ext.froz {w w' : World} (h : Ext w w') {a : Addr} {v : Bool} (hl : a.block < w.heap.size) (hc : w.frozen? a = v) : w'.frozen? a = v := (Below.frozen h hl).trans hc
theorem Ext.cs {w w' : World} (h : Ext w w') : ∀ b o, b < w.heap.size → w'.cell? ⟨b, o, none⟩ = w.cell? ⟨b, o, none⟩ := fun b o hb => Below.cell (p := ⟨b, o, none⟩) h hb
theorem Ext.fs {w w' : World} (h : Ext w w') : ∀ b o, b < w.heap.size → w'.frozen? ⟨b, o, none⟩ = w.frozen? ⟨b, o, none⟩ := fun b o hb => Below.frozen (p := ⟨b, o, none⟩) h hb
theorem Keep.of_grown {F : Nat → Prop} {w w' : World} {row : Option Nat} (h : w.grownBy w' row) (hr : ∀ k, row = some k → k < w.heap.size → F k) : Keep F w w' :=
 ⟨h.os, h.tape, h.output, h.size, fun k hk hn => h.block k hk (fun e => hn (hr k e.symm hk))⟩
theorem Ext.keepNew {F : Nat → Prop} {w W W' : World} (h : Ext w W) (k : Keep F W W') (hF : ∀ i, F i → w.heap.size ≤ i) : Ext w W' :=
 Below.trans h ⟨k.os, k.tape, k.output, k.size, fun i hi => k.block i (Nat.lt_of_lt_of_le hi h.size) (fun hf => absurd (hF i hf) (by omega))⟩
theorem Keep.setCell {F : Nat → Prop} (w : World) (a : Addr) (v : Value) (ha : F a.block) : Keep F w (w.setCell a v) :=
 ⟨rfl, rfl, rfl, by simp, fun k _ hn => Below.heap_setCell _ _ _ _ (fun e => hn (e ▸ ha))⟩
theorem Keep.cell {F : Nat → Prop} {w w' : World} (h : Keep F w w') {a : Addr} {v : Value} (hf : ¬ F a.block) (hc : w.cell? a = some v) : w'.cell? a = some v := by
 have := h.block a.block (World.block_lt_of_cell? w a hc) hf
 simpa [World.cell?, this] using hc
theorem Keep.blk {F : Nat → Prop} {w w' : World} (h : Keep F w w') {k : Nat} {o : Obj} (hf : ¬ F k) (hc : w.heap[k]? = some o) : w'.heap[k]? = some o := (h.block k (Array.getElem?_eq_some_iff.1 hc).1 hf).trans hc

/-! ### blocks known whole -/
theorem bC {w : World} {g : Nat} {cs : Array Value} {T : TypeId} {fr : Nat × Nat} (h : w.heap[g]? = some (.cells cs T fr)) (j : Nat) : w.cell? ⟨g, j, none⟩ = cs[j]? := cell_of_row w g j cs T fr h
theorem bF {w : World} {g : Nat} {cs : Array Value} {T : TypeId} (h : w.heap[g]? = some (.cells cs T (0, 0))) (j : Nat) : w.frozen? ⟨g, j, none⟩ = false := frozen_of_row w g j cs T h
theorem bS {w : World} {g : Nat} {cs : Array Value} {T : TypeId} (h : w.heap[g]? = some (.cells cs T (0, 0))) (j : Nat) (u : Value) : (w.setCell ⟨g, j, none⟩ u).heap[g]? = some (.cells (cs.setIfInBounds j u) T (0, 0)) := heap_setCell_same w g j cs T u h
theorem blk_lt {w : World} {g : Nat} {o : Obj} (h : w.heap[g]? = some o) : g < w.heap.size := (Array.getElem?_eq_some_iff.1 h).1
theorem bN (w : World) (o : Obj) : (w.alloc o).heap[w.heap.size]? = some o := heap_alloc_new w o
theorem bO2 {w : World} {g : Nat} {o o' : Obj} (h : w.heap[g]? = some o) : (w.alloc o').heap[g]? = some o := (Below.heap_alloc w o' g (blk_lt h)).trans h

structure Rd (α : Type) where
 sz : Nat
 C : (Nat → Prop) → World → List Value → α → Prop
 len : ∀ {F w cs x}, C F w cs x → cs.length = sz
 keep : ∀ {F w w' cs x}, Keep F w w' → C F w cs x → C F w' cs x
 narrow : ∀ {F G : Nat → Prop} {w cs x}, (∀ k, k < w.heap.size → G k → F k) → C F w cs x → C G w cs x
 one : ∀ {F w cs x}, C F w cs x → ∀ u ∈ cs, u.oneCell' = true
variable {α β : Type}
def Rd.At (R : Rd α) (F : Nat → Prop) (w : World) (b o : Nat) (x : α) : Prop :=
 ¬ F b ∧ ∃ cs, R.C F w cs x ∧ ∀ j u, cs[j]? = some u → w.cell? ⟨b, o + j, none⟩ = some u
structure Rd.Sl (R : Rd α) (F : Nat → Prop) (w : World) (A : Option Addr) (c : Nat) (l : List α) : Prop where
 le : l.length ≤ c
 max : c ≤ maxLen
 nil_ : A = none → c = 0
 at_ : ∀ k x, l[k]? = some x → ∃ b o, A = some ⟨b, o, none⟩ ∧ R.At F w b (o + k * R.sz) x
theorem Rd.At.keep {R : Rd α} {F : Nat → Prop} {w w' : World} {b o : Nat} {x : α} (h : R.At F w b o x) (k : Keep F w w') : R.At F w' b o x :=
 ⟨h.1, h.2.choose, R.keep k h.2.choose_spec.1, fun j u hj => k.cell h.1 (h.2.choose_spec.2 j u hj)⟩
theorem Rd.At.ext {R : Rd α} {F : Nat → Prop} {w w' : World} {b o : Nat} {x : α} (h : R.At F w b o x) (k : Ext w w') : R.At F w' b o x := h.keep (k.keep F)
theorem Rd.Sl.keep {R : Rd α} {F : Nat → Prop} {w w' : World} {A : Option Addr} {c : Nat} {l : List α} (h : R.Sl F w A c l) (k : Keep F w w') : R.Sl F w' A c l :=
 ⟨h.le, h.max, h.nil_, fun j x hj => by obtain ⟨b, o, e, ha⟩ := h.at_ j x hj; exact ⟨b, o, e, ha.keep k⟩⟩
theorem Rd.Sl.ext {R : Rd α} {F : Nat → Prop} {w w' : World} {A : Option Addr} {c : Nat} {l : List α} (h : R.Sl F w A c l) (k : Ext w w') : R.Sl F w' A c l := h.keep (k.keep F)
theorem Rd.Sl.narrow {R : Rd α} (hsz : 0 < R.sz) {F G : Nat → Prop} {w : World} {A : Option Addr} {c : Nat} {l : List α} (h : R.Sl F w A c l) (hg : ∀ k, k < w.heap.size → G k → F k) : R.Sl G w A c l :=
 ⟨h.le, h.max, h.nil_, fun j x hj => by
   obtain ⟨b, o, e, hf, cs, hC, hc⟩ := h.at_ j x hj
   have hl := R.len hC
   have hb : b < w.heap.size := World.block_lt_of_cell? w _ (hc 0 cs[0] (List.getElem?_eq_getElem (by omega)))
   exact ⟨b, o, e, fun hG => hf (hg b hb hG), cs, R.narrow hg hC, hc⟩⟩
theorem Rd.Sl.nil (R : Rd α) (F : Nat → Prop) (w : World) {A : Option Addr} {c : Nat} (hc : c ≤ maxLen) (hn : A = none → c = 0) : R.Sl F w A c [] :=
 ⟨Nat.zero_le _, hc, hn, fun k x h => by simp at h⟩
theorem Rd.Sl.nil0 (R : Rd α) (F : Nat → Prop) (w : World) : R.Sl F w none 0 [] := Rd.Sl.nil R F w (Nat.zero_le _) (fun _ => rfl)
theorem Rd.Sl.get {R : Rd α} {F : Nat → Prop} {w : World} {A : Option Addr} {c : Nat} {l : List α} (h : R.Sl F w A c l) {k : Nat} (hk : k < l.length) : ∃ b o, A = some ⟨b, o, none⟩ ∧ R.At F w b (o + k * R.sz) l[k] :=
 h.at_ k _ (List.getElem?_eq_getElem hk)
theorem Rd.Sl.sub {R : Rd α} {F : Nat → Prop} {w : World} {A : Option Addr} {c : Nat} {l : List α} (h : R.Sl F w A c l) {i j m : Nat} (hij : i ≤ j) (hj : j ≤ l.length) (hm : j ≤ m) (hc : m ≤ c) :
   R.Sl F w (if m = i then A else A.map (·.add (i * R.sz))) (m - i) ((l.take j).drop i) := by
 refine ⟨by simp; omega, by have := h.max; omega, fun hn => ?_, fun k x hk => ?_⟩
 · by_cases e : m = i
   · omega
   · rw [if_neg e] at hn
     have := h.nil_ (by cases A <;> simp_all)
     omega
 · rw [List.getElem?_drop, List.getElem?_take] at hk
   split at hk
   · obtain ⟨b, o, rfl, ha⟩ := h.at_ _ _ hk
     refine ⟨b, o + i * R.sz, ?_, ?_⟩
     · rw [if_neg (by omega)]; simp [Addr.add_lit]
     · rw [Nat.add_mul] at ha; rw [Nat.add_assoc]; exact ha
   · cases hk
def El (P : Program) (t e : TypeId) (sz bytes : Nat) : Prop := P.underlying t = some (.slice e) ∧ ∃ i z, P.info? e = some i ∧ i.zero = some z ∧ i.size = sz ∧ i.bytes = bytes ∧ z.cells.size = sz ∧ 0 < sz
theorem El.mk {P : Program} {t e : TypeId} {sz bytes : Nat} {z : Value} (hu : P.underlying t = some (.slice e)) (h : (P.info? e).map (fun i => (i.zero, i.size, i.bytes)) = some (some z, sz, bytes)) (hz : z.cells.size = sz) (hp : 0 < sz) : El P t e sz bytes := by
 obtain ⟨i, hi, h1, h2, h3⟩ := info_parts h
 exact ⟨hu, i, z, hi, h1, h2, h3, hz, hp⟩
theorem Rd.Sl.pre {R : Rd α} {F : Nat → Prop} {w : World} {A : Option Addr} {c : Nat} {l : List α} (h : R.Sl F w A c l) (j : Nat) : R.Sl F w A c (l.take j) :=
 ⟨by have := h.le; rw [List.length_take]; omega, h.max, h.nil_, fun k x hk => by
   rw [List.getElem?_take] at hk
   split at hk
   · exact h.at_ k x hk
   · cases hk⟩
theorem Rd.Sl.cut {R : Rd α} {F : Nat → Prop} {w : World} {A : Option Addr} {c : Nat} {l : List α} (h : R.Sl F w A c l) {P : Program} {t e : TypeId} {bytes : Nat} (hE : El P t e R.sz bytes) (i j n : Nat) (I J : Int) (hij : i ≤ j) (hj : j ≤ l.length) (hI : I = i) (hJ : J = j) (hn : j - i = n) :
   ∃ A', (∀ (kl kh : IntKind) (W : World), (Instr.slice t (.slice A l.length c) (some (.int kl I)) (some (.int kh J)) none).run P W = .ok (.slice A' n (c - i)) W) ∧ R.Sl F w A' (c - i) ((l.take j).drop i) := by
 subst hI hJ hn
 have hc := h.le
 refine ⟨_, fun kl kh W => ?_, h.sub (i := i) (j := j) (m := c) hij hj (by omega) (Nat.le_refl _)⟩
 obtain ⟨hu, i', z, hi, hz, hsz, hb, hzs, hp⟩ := hE
 have hel : P.elem t = e := by unfold Program.elem; rw [hu]
 rw [run_slice_lh W t A l.length c (by rw [hel]; exact hu) kl kh i j (by omega) (by omega) (by omega)]
 simp [hel, sizeOf, typeInfo, hi, hsz, sliced]
theorem Rd.Sl.suf {R : Rd α} {F : Nat → Prop} {w : World} {A : Option Addr} {c : Nat} {l : List α} (h : R.Sl F w A c l) {P : Program} {t e : TypeId} {bytes : Nat} (hE : El P t e R.sz bytes) (i n : Nat) (I : Int) (hi : i ≤ l.length) (hI : I = i) (hn : l.length - i = n) :
   ∃ A', (∀ (kl : IntKind) (W : World), (Instr.slice t (.slice A l.length c) (some (.int kl I)) none none).run P W = .ok (.slice A' n (c - i)) W) ∧ R.Sl F w A' (c - i) (l.drop i) := by
 subst hI hn
 have hc := h.le
 have hs := h.sub (i := i) (j := l.length) (m := c) hi (Nat.le_refl _) (by omega) (Nat.le_refl _)
 rw [List.take_length] at hs
 refine ⟨_, fun kl W => ?_, hs⟩
 obtain ⟨hu, i', z, hi', hz, hsz, hb, hzs, hp⟩ := hE
 have hel : P.elem t = e := by unfold Program.elem; rw [hu]
 rw [run_slice_l W t A l.length c (by rw [hel]; exact hu) kl i (by omega) (by omega)]
 simp [hel, sizeOf, typeInfo, hi', hsz, sliced]
theorem snoc_ind {P : List α → Prop} (h0 : P []) (hs : ∀ l x, P l → P (l ++ [x])) (l : List α) : P l := by
 have h : ∀ r : List α, P r.reverse := by
   intro r
   induction r with
   | nil => exact h0
   | cons x r ih => rw [List.reverse_cons]; exact hs _ _ ih
 have := h l.reverse
 rwa [List.reverse_reverse] at this
theorem Rd.Sl.cells {R : Rd α} {F : Nat → Prop} {w : World} {b o : Nat} {c : Nat} : ∀ {l : List α}, R.Sl F w (some ⟨b, o, none⟩) c l →
   ∃ cs : List Value, cs.length = l.length * R.sz ∧ (∀ j u, cs[j]? = some u → w.cell? ⟨b, o + j, none⟩ = some u) ∧ (∀ k x, l[k]? = some x → ¬ F b ∧ R.C F w ((cs.drop (k * R.sz)).take R.sz) x) ∧ ∀ u ∈ cs, u.oneCell' = true := by
 intro l
 refine snoc_ind (P := fun l => R.Sl F w (some ⟨b, o, none⟩) c l → ∃ cs : List Value, cs.length = l.length * R.sz ∧ (∀ j u, cs[j]? = some u → w.cell? ⟨b, o + j, none⟩ = some u) ∧ (∀ k x, l[k]? = some x → ¬ F b ∧ R.C F w ((cs.drop (k * R.sz)).take R.sz) x) ∧ ∀ u ∈ cs, u.oneCell' = true) ?_ ?_ _
 · intro _; exact ⟨[], by simp, by simp, by simp, by simp⟩
 · intro l x ih h
   have h' : R.Sl F w (some ⟨b, o, none⟩) c l := ⟨by have := h.le; simp at this; omega, h.max, h.nil_, fun k y hk => h.at_ k y (by rw [List.getElem?_append_left (by have := (List.getElem?_eq_some_iff.1 hk).1; omega)]; exact hk)⟩
   obtain ⟨cs, h1, h2, h3, h4⟩ := ih h'
   obtain ⟨b', o', e, hf, ds, hC, hd⟩ := h.at_ l.length x (by simp)
   simp only [Option.some.injEq, Addr.mk.injEq, and_true] at e
   obtain ⟨rfl, rfl⟩ := e
   have hl := R.len hC
   refine ⟨cs ++ ds, by simp [h1, hl, Nat.add_mul], fun j u hj => ?_, fun k y hk => ?_, fun u hu => (List.mem_append.1 hu).elim (h4 u) (R.one hC u)⟩
   · rcases Nat.lt_or_ge j cs.length with hlt | hge
     · exact h2 j u (by rwa [List.getElem?_append_left hlt] at hj)
     · rw [List.getElem?_append_right hge] at hj
       have := hd _ _ hj
       rw [← this]; congr 2; omega
   · rcases Nat.lt_or_ge k l.length with hlt | hge
     · rw [List.getElem?_append_left hlt] at hk
       obtain ⟨hf, hk⟩ := h3 k y hk
       have e : k * R.sz + R.sz ≤ cs.length := by rw [h1, ← Nat.succ_mul]; exact Nat.mul_le_mul_right _ hlt
       refine ⟨hf, ?_⟩
       rw [List.drop_append_of_le_length (by omega), List.take_append_of_le_length (by simp; omega)]
       exact hk
     · have : k = l.length := by
         have := (List.getElem?_eq_some_iff.1 hk).1; simp at this; omega
       subst this
       rw [List.getElem?_append_right (Nat.le_refl _)] at hk
       simp at hk
       subst hk
       rw [← h1, List.drop_left, List.take_of_length_le (by omega)]
       exact ⟨hf, hC⟩

/-! ### rows under way -/
def Fv (F : Nat → Prop) (v : Value) : Nat → Prop := fun k => F k ∨ v.ownBlock = some k
def Rd.Own (R : Rd α) (F : Nat → Prop) (B : Nat) (e : TypeId) (w : World) (v : Value) (l : List α) : Prop :=
 ∃ xs : List Value, w.ownsRow B e R.sz v l.length xs ∧ ∀ k x, l[k]? = some x → R.C (Fv F v) w ((xs.drop (k * R.sz)).take R.sz) x
theorem Rd.Own.nil (R : Rd α) (F : Nat → Prop) (B : Nat) (e : TypeId) (w : World) : R.Own F B e w (.slice none 0 0) [] := ⟨[], World.ownsRow_nil _ _ _ _, fun k x h => by simp at h⟩
theorem ownBlock_ge {w : World} {B : Nat} {e : TypeId} {size : Nat} {v : Value} {n : Nat} {xs : List Value} (h : w.ownsRow B e size v n xs) {k : Nat} (hk : v.ownBlock = some k) : B ≤ k ∧ k < w.heap.size := h.lt k hk
theorem Rd.Own.ge {R : Rd α} {F : Nat → Prop} {B : Nat} {e : TypeId} {w : World} {v : Value} {l : List α} (h : R.Own F B e w v l) : ∀ k, v.ownBlock = some k → B ≤ k ∧ k < w.heap.size := by
 obtain ⟨xs, h, _⟩ := h; exact h.lt
theorem Rd.Own.shut {R : Rd α} {F : Nat → Prop} {B : Nat} {e : TypeId} {w : World} {v : Value} {l : List α} (h : R.Own F B e w v l) (hF : ∀ k, F k → k < B) :
   ∃ A c, v = .slice A l.length c ∧ R.Sl F w A c l := by
 obtain ⟨xs, ho, hC⟩ := h
 rcases ho.2 with ⟨rfl, hn⟩ | ⟨g, cap, cur, rfl, hb, hg, hnc, hcm, hcs, htake⟩
 · obtain rfl : l = [] := List.eq_nil_of_length_eq_zero hn
   exact ⟨none, 0, rfl, Rd.Sl.nil0 R F w⟩
 · refine ⟨some ⟨g, 0, none⟩, cap, rfl, hnc, hcm, (fun h => by cases h), fun k x hk => ⟨g, 0, rfl, fun hf => by have := hF g hf; omega, _, R.narrow (fun k _ hk => .inl hk) (hC k x hk), fun j u hj => ?_⟩⟩
   have hkl := (List.getElem?_eq_some_iff.1 hk).1
   have hj' : j < R.sz := by have := (List.getElem?_eq_some_iff.1 hj).1; simp at this; omega
   have := ho.cells (g := g) rfl (k * R.sz + j) u (by rw [List.getElem?_take, if_pos hj', List.getElem?_drop] at hj; exact hj)
   rw [Addr.add_lit] at this
   rw [← this]; congr 2; omega
theorem Rd.Own.keep {R : Rd α} {F : Nat → Prop} {B : Nat} {e : TypeId} {w w' : World} {v : Value} {l : List α} (h : R.Own F B e w v l) (k : Keep F w w') (hv : ∀ g, v.ownBlock = some g → ¬ F g) (hk : ∀ g, v.ownBlock = some g → w'.heap[g]? = w.heap[g]?) : R.Own F B e w' v l := by
 obtain ⟨xs, ho, hC⟩ := h
 refine ⟨xs, ⟨ho.1, ?_⟩, fun j x hj => R.keep ⟨k.os, k.tape, k.output, k.size, fun i hi hn => k.block i hi (fun hf => hn (.inl hf))⟩ (hC j x hj)⟩
 rcases ho.2 with h1 | ⟨g, cap, cur, rfl, hb, hg, rest⟩
 · exact .inl h1
 · exact .inr ⟨g, cap, cur, rfl, hb, (hk g rfl).trans hg, rest⟩
theorem Rd.Own.ext {R : Rd α} {F : Nat → Prop} {B : Nat} {e : TypeId} {w w' : World} {v : Value} {l : List α} (h : R.Own F B e w v l) (k : Ext w w') : R.Own F B e w' v l := by
 obtain ⟨xs, ho, hC⟩ := h
 refine ⟨xs, ⟨ho.1, ?_⟩, fun j x hj => R.keep (k.keep _) (hC j x hj)⟩
 rcases ho.2 with h1 | ⟨g, cap, cur, rfl, hb, hg, rest⟩
 · exact .inl h1
 · exact .inr ⟨g, cap, cur, rfl, hb, k.blk hg, rest⟩
theorem Rd.Own.lower {R : Rd α} {F : Nat → Prop} {B B' : Nat} {e : TypeId} {w : World} {v : Value} {l : List α} (h : R.Own F B e w v l) (hB : B' ≤ B) : R.Own F B' e w v l := by
 obtain ⟨xs, ho, hC⟩ := h
 refine ⟨xs, ⟨ho.1, ?_⟩, hC⟩
 rcases ho.2 with h1 | ⟨g, cap, cur, hv, hb, rest⟩
 · exact .inl h1
 · exact .inr ⟨g, cap, cur, hv, Nat.le_trans hB hb, rest⟩
theorem Rd.Own.more {R : Rd α} {F : Nat → Prop} {B : Nat} {e : TypeId} {w w' : World} {v v' : Value} {l m : List α} {xs news : List Value}
   (h : ∀ k x, l[k]? = some x → R.C (Fv F v) w ((xs.drop (k * R.sz)).take R.sz) x) (hx : xs.length = l.length * R.sz)
   (hm : ∀ k x, m[k]? = some x → R.C (Fv F v) w ((news.drop (k * R.sz)).take R.sz) x) (hn : news.length = m.length * R.sz)
   (ho : w'.ownsRow B e R.sz v' (l.length + m.length) (xs ++ news)) (hg : w.grownBy w' v.ownBlock) (hat : v'.ownBlock = v.ownBlock ∨ v'.ownBlock = some w.heap.size) : R.Own F B e w' v' (l ++ m) := by
 have hall : ∀ k x, (l ++ m)[k]? = some x → R.C (Fv F v) w (((xs ++ news).drop (k * R.sz)).take R.sz) x := by
   intro k x hk
   rcases Nat.lt_or_ge k l.length with hlt | hge
   · rw [List.getElem?_append_left hlt] at hk
     have e : k * R.sz + R.sz ≤ xs.length := by rw [hx, ← Nat.succ_mul]; exact Nat.mul_le_mul_right _ hlt
     rw [List.drop_append_of_le_length (by omega), List.take_append_of_le_length (by simp; omega)]
     exact h k x hk
   · rw [List.getElem?_append_right hge] at hk
     obtain ⟨j, rfl⟩ : ∃ j, k = l.length + j := ⟨k - l.length, by omega⟩
     rw [Nat.add_sub_cancel_left] at hk
     have := hm j x hk
     rw [Nat.add_mul, ← hx, List.drop_append, List.drop_of_length_le (by omega), List.nil_append, Nat.add_sub_cancel_left]
     exact this
 refine ⟨xs ++ news, by rw [List.length_append]; exact ho, fun k x hk => ?_⟩
 have h1 : R.C (fun i => F i ∨ v.ownBlock = some i ∨ v'.ownBlock = some i) w (((xs ++ news).drop (k * R.sz)).take R.sz) x := by
   refine R.narrow (fun i hi hG => ?_) (hall k x hk)
   rcases hG with hF | hF | hF
   · exact .inl hF
   · exact .inr hF
   · rcases hat with hat | hat
     · exact .inr (hat ▸ hF)
     · rw [hat] at hF; simp at hF; omega
 have h2 := R.keep (w' := w') ⟨hg.os, hg.tape, hg.output, hg.size, fun i hi hn => hg.block i hi (fun e => hn (.inr (.inl e.symm)))⟩ h1
 exact R.narrow (fun i _ hG => hG.elim .inl (fun h => .inr (.inr h))) h2

theorem Rd.Own.set1 {R : Rd α} (hsz : R.sz = 1) {F : Nat → Prop} {B : Nat} {e : TypeId} {w : World} {g n cap : Nat} {l : List α} (h : R.Own F B e w (.slice (some ⟨g, 0, none⟩) n cap) l) {i : Nat} (hi : i < l.length) {u : Value} {y : α}
   (hy : R.C (Fv F (.slice (some ⟨g, 0, none⟩) n cap)) w [u] y) : R.Own F B e (w.setCell ⟨g, i, none⟩ u) (.slice (some ⟨g, 0, none⟩) n cap) (l.set i y) := by
 obtain ⟨xs, ho, hC⟩ := h
 have hK : Keep (Fv F (.slice (some ⟨g, 0, none⟩) n cap)) w (w.setCell ⟨g, i, none⟩ u) := Keep.setCell _ _ _ (.inr rfl)
 have hnl : n = l.length := by
   rcases ho.2 with ⟨h', _⟩ | ⟨g', cap', cur, h', _⟩
   · cases h'
   · simp only [Value.slice.injEq] at h'; exact h'.2.1
 subst hnl
 refine ⟨xs.set i u, ?_, fun k x hk => ?_⟩
 · rw [List.length_set]; exact (ho.stored i u).1
 · refine R.keep hK ?_
   have hxl : xs.length = l.length := by have := ho.1; rw [hsz, Nat.mul_one] at this; exact this
   by_cases hik : i = k
   · subst hik
     rw [List.getElem?_set_self hi] at hk
     cases hk
     rw [hsz, Nat.mul_one]
     have e : ((xs.set i u).drop i).take 1 = [u] := by
       rw [List.drop_eq_getElem_cons (by rw [List.length_set]; omega)]
       simp
     rw [e]; exact hy
   · rw [List.getElem?_set_ne hik] at hk
     have := hC k x hk
     rw [hsz, Nat.mul_one] at this ⊢
     have hkl := (List.getElem?_eq_some_iff.1 hk).1
     have e : ((xs.set i u).drop k).take 1 = (xs.drop k).take 1 := by
       rw [List.drop_eq_getElem_cons (by rw [List.length_set]; omega), List.drop_eq_getElem_cons (l := xs) (by omega)]
       show [_] = [_]
       rw [List.getElem_set_ne hik]
     rw [e]; exact this
theorem Rd.Own.get1 {R : Rd α} (hsz : R.sz = 1) {F : Nat → Prop} {B : Nat} {e : TypeId} {w : World} {g n cap : Nat} {l : List α} (h : R.Own F B e w (.slice (some ⟨g, 0, none⟩) n cap) l) {i : Nat} (hi : i < l.length) :
   ∃ u, w.cell? ⟨g, i, none⟩ = some u ∧ w.frozen? ⟨g, i, none⟩ = false ∧ R.C (Fv F (.slice (some ⟨g, 0, none⟩) n cap)) w [u] l[i] := by
 obtain ⟨xs, ho, hC⟩ := h
 have hnl : n = l.length := by
   rcases ho.2 with ⟨h', _⟩ | ⟨g', cap', cur, h', _⟩
   · cases h'
   · simp only [Value.slice.injEq] at h'; exact h'.2.1
 subst hnl
 have hxl : xs.length = l.length := by have := ho.1; rw [hsz, Nat.mul_one] at this; exact this
 have hx := hC i l[i] (List.getElem?_eq_getElem hi)
 rw [hsz, Nat.mul_one, List.drop_eq_getElem_cons (by omega)] at hx
 refine ⟨xs[i], ?_, ho.frozenAt i, hx⟩
 rw [ho.cellAt i (by rw [hsz]; omega)]
 exact List.getElem?_eq_getElem (by omega)

/-! ### append -/
section
variable {P : Program} {ops : Array Oper} {rest : List Oper} {o : Oper} {a : Act} {Q : Exit → Act → World → Prop} {w : World}
theorem wp_more {K : Act → World → Prop} (s x : Operand) (t : TypeId) (ho : o.op = .call { callee := .builtin .append, args := #[s, x], argTypes := #[t, t] })
   (R : Rd α) {F : Nat → Prop} {B : Nat} {e : TypeId} {bytes : Nat} (hE : El P t e R.sz bytes) {v : Value} {l m : List α} (hs : a.eval s = v) (hown : R.Own F B e w v l)
   {ad : Addr} {c : Nat} (hx : a.eval x = .slice (some ad) m.length c) {news : List Value} (hn : news.length = m.length * R.sz) (hc : ∀ j u, news[j]? = some u → w.cell? (ad.add j) = some u)
   (hm : ∀ k y, m[k]? = some y → R.C (Fv F v) w ((news.drop (k * R.sz)).take R.sz) y) (h1 : ∀ u ∈ news, u.oneCell' = true)
   (hlen : l.length + m.length ≤ maxLen) (hby : (l.length + m.length) * bytes ≤ 140737488355328) {w0 : World} (hB : B ≤ w.heap.size) (hw : Below B w0 w)
   (h : ∀ v' w', R.Own F B e w' v' (l ++ m) → w.grownBy w' v.ownBlock → Below B w0 w' → K (a.put o.dst v') w') : o.wp P a w K Q := by
 obtain ⟨hu, i, z, hi, hz, hsz, hb, hzs, hp⟩ := hE
 obtain ⟨xs, hro, hC⟩ := hown
 obtain ⟨v', w', hr, h2, h3, _, h5⟩ := run_append_own_at (P := P) w B t o.type e i z R.sz bytes hu hi hz hsz hb hzs hp v l.length xs hro ad m.length c news hn hc h1 hlen hby hB
 unfold Oper.wp execOp
 simp only [ho, resolve, invoke, builtin, Sem.run_bind, Sem.run_pure, Result.andThen_ok, List.map_toArray, List.map_cons, List.map_nil, hs, hx, hr]
 exact h v' w' (Rd.Own.more hC hro.1 hm hn h2 h3 h5) h3 (hw.grown h3 hB (fun k hk => (hro.lt k hk).1))
theorem wpList_more (hgd : o.guard = none) (s x : Operand) (t : TypeId) (ho : o.op = .call { callee := .builtin .append, args := #[s, x], argTypes := #[t, t] })
   (R : Rd α) {F : Nat → Prop} {B : Nat} {e : TypeId} {bytes : Nat} (hE : El P t e R.sz bytes) {v : Value} {l m : List α} (hs : a.eval s = v) (hown : R.Own F B e w v l)
   {ad : Addr} {c : Nat} (hx : a.eval x = .slice (some ad) m.length c) {news : List Value} (hn : news.length = m.length * R.sz) (hc : ∀ j u, news[j]? = some u → w.cell? (ad.add j) = some u)
   (hm : ∀ k y, m[k]? = some y → R.C (Fv F v) w ((news.drop (k * R.sz)).take R.sz) y) (h1 : ∀ u ∈ news, u.oneCell' = true)
   (hlen : l.length + m.length ≤ maxLen) (hby : (l.length + m.length) * bytes ≤ 140737488355328) {w0 : World} (hB : B ≤ w.heap.size) (hw : Below B w0 w)
   (h : ∀ v' w', R.Own F B e w' v' (l ++ m) → w.grownBy w' v.ownBlock → Below B w0 w' → wpList P ops Q rest (a.put o.dst v') w') : wpList P ops Q (o :: rest) a w :=
 wpList_plain hgd fun K hK => wp_more s x t ho R hE hs hown hx hn hc hm h1 hlen hby hB hw fun v' w' h2 h3 h4 => hK _ _ (h v' w' h2 h3 h4)
theorem step_push {K : Act → World → Prop} {E : Prop} (hgd : o.guard = none) (s x : Operand) (t : TypeId) (ho : o.op = .call { callee := .builtin .append, args := #[s, x], argTypes := #[t, t] })
   (R : Rd α) {F : Nat → Prop} {e : TypeId} {bytes : Nat} (hE : El P t e R.sz bytes) {v : Value} {l : List α} {w0 : World} (hs : a.eval s = v) (hown : R.Own F w0.heap.size e w v l)
   {g : Nat} {c : Nat} (hx : a.eval x = .slice (some ⟨g, 0, none⟩) 1 c) {cs : Array Value} {te : TypeId} {fr : Nat × Nat} (hc : w.heap[g]? = some (.cells cs te fr)) {y : α} (hy : R.C (Fv F v) w cs.toList y)
   (hlen : (l.length + 1) * bytes ≤ 140737488355328) (hl2 : l.length + 1 ≤ maxLen) (hw : Ext w0 w)
   (h : ∀ v' w', R.Own F w0.heap.size e w' v' (l ++ [y]) → w.grownBy w' v.ownBlock → Ext w0 w' → K (a.put o.dst v') w') : if Region.wanted o (yielded ops a.tmps) = true then Oper.wp P o a w K Q else E := by
 have hwt : Region.wanted o (yielded ops a.tmps) = true := by simp [Region.wanted, hgd]
 rw [if_pos hwt]
 have hl := R.len hy
 refine wp_more s x t ho R hE (m := [y]) hs hown hx (news := cs.toList) (by simp [hl]) (fun j u hj => ?_) (fun k y' hk => ?_) (R.one hy) hl2 hlen hw.size hw h
 · rw [Addr.add_lit, Nat.zero_add, cell_of_row w g j cs te fr hc]
   simpa using hj
 · match k, hk with
   | 0, hk => simp at hk; subst hk; simp; rw [List.take_of_length_le (by omega)]; exact hy
theorem wpList_push (hgd : o.guard = none) (s x : Operand) (t : TypeId) (ho : o.op = .call { callee := .builtin .append, args := #[s, x], argTypes := #[t, t] })
   (R : Rd α) {F : Nat → Prop} {B : Nat} {e : TypeId} {bytes : Nat} (hE : El P t e R.sz bytes) {v : Value} {l : List α} (hs : a.eval s = v) (hown : R.Own F B e w v l)
   {g : Nat} {c : Nat} (hx : a.eval x = .slice (some ⟨g, 0, none⟩) 1 c) {cs : Array Value} {te : TypeId} {fr : Nat × Nat} (hc : w.heap[g]? = some (.cells cs te fr)) {y : α} (hy : R.C (Fv F v) w cs.toList y)
   (hlen : (l.length + 1) * bytes ≤ 140737488355328) (hl2 : l.length + 1 ≤ maxLen) {w0 : World} (hB : B ≤ w.heap.size) (hw : Below B w0 w)
   (h : ∀ v' w', R.Own F B e w' v' (l ++ [y]) → w.grownBy w' v.ownBlock → Below B w0 w' → wpList P ops Q rest (a.put o.dst v') w') : wpList P ops Q (o :: rest) a w := by
 have hl := R.len hy
 refine wpList_more hgd s x t ho R hE (m := [y]) hs hown hx (news := cs.toList) (by simp [hl]) (fun j u hj => ?_) (fun k y' hk => ?_) (R.one hy) hl2 hlen hB hw h
 · rw [Addr.add_lit, Nat.zero_add, cell_of_row w g j cs te fr hc]
   simpa using hj
 · match k, hk with
   | 0, hk => simp at hk; subst hk; simp; rw [List.take_of_length_le (by omega)]; exact hy
theorem wpList_app (hgd : o.guard = none) (s x : Operand) (t : TypeId) (ho : o.op = .call { callee := .builtin .append, args := #[s, x], argTypes := #[t, t] })
   (R : Rd α) {F : Nat → Prop} {B : Nat} {e : TypeId} {bytes : Nat} (hE : El P t e R.sz bytes) {v : Value} {l m : List α} (hs : a.eval s = v) (hown : R.Own F B e w v l)
   {A : Option Addr} {c n : Nat} (hx : a.eval x = .slice A n c) (hnn : n = m.length) (hm : R.Sl (Fv F v) w A c m)
   (hlen : (l.length + m.length) * bytes ≤ 140737488355328) (hl2 : l.length + m.length ≤ maxLen) {w0 : World} (hB : B ≤ w.heap.size) (hw : Below B w0 w)
   (h : ∀ v' w', R.Own F B e w' v' (l ++ m) → w.grownBy w' v.ownBlock → Below B w0 w' → wpList P ops Q rest (a.put o.dst v') w') : wpList P ops Q (o :: rest) a w := by
 subst hnn
 rcases Nat.eq_zero_or_pos m.length with h0 | h0
 · obtain rfl : m = [] := List.eq_nil_of_length_eq_zero h0
   rcases A with _ | ad
   · obtain rfl : c = 0 := hm.nil_ rfl
     obtain ⟨hu, i, z, hi, hz, hsz, hb, hzs, hp⟩ := hE
     obtain ⟨xs, hro, hC⟩ := hown
     have hrun := run_append_owned_none (P := P) (w := w) B t o.type e i R.sz hu hi v l.length xs hro
     refine wpList_plain hgd fun K hK => ?_
     unfold Oper.wp
     simp [execOp, ho, resolve, invoke, builtin, hs, hx, hrun, Result.andThen]
     exact hK _ _ (h v w (by rw [List.append_nil]; exact ⟨xs, hro, hC⟩) (World.grownBy.refl _ _) hw)
   · exact wpList_more hgd s x t ho R hE (m := []) hs hown hx (news := []) (by simp) (by simp) (by simp) (by simp) hl2 hlen hB hw h
 · obtain ⟨b, o', rfl, _⟩ := hm.get h0
   obtain ⟨cs, h1, h2, h3, h4⟩ := hm.cells
   exact wpList_more hgd s x t ho R hE hs hown hx h1 (fun j u hj => by rw [Addr.add_lit]; exact h2 j u hj) (fun k y hk => (h3 k y hk).2) h4 hl2 hlen hB hw h
end

section
variable {P : Program} {ops : Array Oper} {rest : List Oper} {o : Oper} {a : Act} {Q : Exit → Act → World → Prop} {w : World}
theorem wpList_copyAll (hgd : o.guard = none) (d s : Operand) (dT sT : TypeId) (ho : o.op = .call { callee := .builtin .copy, args := #[d, s], argTypes := #[dT, sT] })
   (R : Rd α) (h1 : R.sz = 1) {F : Nat → Prop} {B : Nat} {e : TypeId} {bytes : Nat} (hE : El P dT e R.sz bytes) {g n : Nat} {zs : List Value} (hd : a.eval d = .slice (some ⟨g, 0, none⟩) n n) (hown : w.ownsRow B e R.sz (.slice (some ⟨g, 0, none⟩) n n) n zs)
   {A : Option Addr} {c m : Nat} {l : List α} (hs : a.eval s = .slice A m c) (hm : m = n) (hn : n = l.length) (hl : R.Sl (Fv F (.slice (some ⟨g, 0, none⟩) n n)) w A c l)
   (h : ∀ w', R.Own F B e w' (.slice (some ⟨g, 0, none⟩) n n) l → Keep (fun k => k = g) w w' → wpList P ops Q rest (a.put o.dst (.int .i64 n)) w') : wpList P ops Q (o :: rest) a w := by
 subst hm
 obtain ⟨hu, i, z, hi, hz, hsz, hb, hzs, hp⟩ := hE
 have hso : (P.info? e).map (·.size) = some 1 := by rw [hi]; simp [hsz, h1]
 rcases hown.2 with ⟨h', _⟩ | ⟨g', cap', cur, h', hbg, hg, hnc, hcm, hcs, htake⟩
 · cases h'
 simp only [Value.slice.injEq, Option.some.injEq, Addr.mk.injEq, and_true, true_and] at h'
 obtain ⟨rfl, rfl⟩ := h'
 rw [h1, Nat.mul_one] at hcs
 rcases Nat.eq_zero_or_pos m with h0 | h0
 · subst h0
   obtain rfl : l = [] := List.eq_nil_of_length_eq_zero hn.symm
   refine wpList_copy_nothing hgd d s dT sT ho e hu hso _ A 0 0 0 c hd hs (by simp) ?_
   exact h w ⟨[], by obtain rfl : zs = [] := List.eq_nil_of_length_eq_zero (by simpa using hown.1); exact hown, fun k x hk => by simp at hk⟩ (Keep.refl _ _)
 · obtain ⟨b, o', rfl, _⟩ := hl.get (k := 0) (by omega)
   obtain ⟨cs, c1, c2, c3, c4⟩ := hl.cells
   rw [h1, Nat.mul_one, ← hn] at c1
   refine wpList_copy_own hgd d s dT sT ho e hu hso g 0 m m ⟨b, o', none⟩ m c hd hs cur e hg cs (by rw [c1]; simp) (fun j u hj => by rw [Addr.add_lit]; exact c2 j u hj) (by omega) c4 ?_
   have hcur : (List.take 0 cur.toList ++ (cs ++ List.drop (0 + cs.length) cur.toList)) = cs := by
     rw [List.drop_of_length_le (by simp; omega)]; simp
   rw [hcur, c1]
   have hK : Keep (fun k => k = g) w (w.setRow g cs.toArray) := ⟨rfl, rfl, rfl, by simp [World.setRow], fun k _ hk => setRow_other w g k _ hk⟩
   refine h _ ⟨cs, ⟨by rw [h1]; omega, .inr ⟨g, m, cs.toArray, by rw [← hn], hbg, setRow_heap w g cur _ e _ hg, by omega, hcm, by rw [h1]; simp; omega, by rw [List.take_of_length_le (by rw [h1]; simp; omega)]⟩⟩, fun k x hk => ?_⟩ hK
   exact R.keep (hK.mono (fun k _ hk => .inr (by rw [hk]; rfl))) (c3 k x hk).2
end

theorem madeCells_take (z : Array Value) (n k sz : Nat) (hz : z.size = sz) (hk : k < n) : (((madeCells z (n * sz)).toList.drop (k * sz)).take sz) = z.toList := by
 have h1 : k * sz + sz ≤ n * sz := by rw [← Nat.succ_mul]; exact Nat.mul_le_mul_right _ hk
 apply List.ext_getElem?
 intro j
 rw [List.getElem?_take]
 by_cases hj : j < sz
 · rw [if_pos hj, List.getElem?_drop]
   have h2 : k * sz + j < n * sz := by omega
   simp only [madeCells, Array.toList_map, Array.toList_range, List.getElem?_map, List.getElem?_range h2, Option.map_some]
   rw [hz, Nat.mul_comm k sz, Nat.mul_add_mod, Nat.mod_eq_of_lt hj]
   simp [hz, hj]
 · rw [if_neg hj, List.getElem?_eq_none (by simp; omega)]
section
variable {P : Program} {ops : Array Oper} {rest : List Oper} {o : Oper} {a : Act} {Q : Exit → Act → World → Prop} {w : World}
theorem wpList_makeN (hgd : o.guard = none) (l c : Operand) (t : TypeId) (hop : o.op = Op.makeSlice t l c) (R : Rd α) {F : Nat → Prop} {B : Nat} {e : TypeId} {bytes : Nat} (hE : El P t e R.sz bytes) {kl kc : IntKind} {n : Nat} {N : Int}
   (hl : a.eval l = .int kl N) (hc : a.eval c = .int kc N) (hN : N = n) (hn : n ≤ 100000000) (hby : bytes ≤ 1000) (hB : B ≤ w.heap.size) (H : Nat) (hH : w.heap.size = H) {z0 : Value} (hz0 : (P.info? e).map (·.zero) = some (some z0)) {y0 : α} (hy : ∀ F W, R.C F W z0.cells.toList y0)
   (h : ∀ w', R.Own F B e w' (.slice (some ⟨H, 0, none⟩) n n) (List.replicate n y0) → (∃ zs, w'.ownsRow B e R.sz (.slice (some ⟨H, 0, none⟩) n n) n zs) → Ext w w' → w'.heap.size = H + 1 → wpList P ops Q rest (a.put o.dst (.slice (some ⟨H, 0, none⟩) n n)) w') : wpList P ops Q (o :: rest) a w := by
 subst hH hN
 obtain ⟨hu, i, z, hi, hz, hsz, hb, hzs, hp⟩ := hE
 have hbn : bytes * n ≤ 281474976710656 := Nat.le_trans (Nat.mul_le_mul hby hn) (by decide)
 refine wpList_plain hgd fun K hK' => ?_
 have hr := run_make (P := P) w t e i z hu hi hz kl kc n n (by omega) (Int.le_refl _) (by rw [hb, ← Int.natCast_mul]; omega) (by omega)
 simp only [Int.toNat_natCast, hsz] at hr
 have hown := World.ownsRow_lit (base := B) (e := e) (size := R.sz) w (madeCells z.cells (n * R.sz)) n hB (by simp [maxLen]; omega) (size_madeCells _ _)
 unfold Oper.wp
 simp [execOp, hop, hl, hc, hr, Result.andThen]
 refine hK' _ _ (h _ ⟨_, by rw [List.length_replicate]; exact hown, fun k x hk => ?_⟩ ⟨_, hown⟩ ((Ext.refl w).alloc _) (by simp))
 have hkn : k < n := by have := (List.getElem?_eq_some_iff.1 hk).1; simpa using this
 rw [List.getElem?_replicate, if_pos hkn] at hk
 cases hk
 rw [madeCells_take _ _ _ _ hzs hkn]
 rw [hi] at hz0
 simp only [Option.map_some, hz, Option.some.injEq] at hz0
 subst hz0
 exact hy _ _
end

theorem run_append_make_nil {P : Program} (w : World) (t ti ty e : TypeId) (k : IntKind) (i : TypeInfo) (z : Value) (ht : P.underlying t = some (.slice e)) (hti : P.underlying ti = some (.int k)) (hi : P.info? e = some i) (hz : i.zero = some z)
   (n : Nat) (h0 : 0 < n) (h63 : n ≤ 100000000) (hsz : 0 < i.size) (hb : i.bytes ≤ 1000) :
   (Builtin.append_ #[t, ti] ty #[.slice none 0 0, .int .i64 n]).run P w =
     .ok (.slice (some ⟨w.heap.size, 0, none⟩) n (grownCap w n 0 e)) (w.drew.alloc (.cells (Builtin.zeroCells z.cells n ++ Builtin.zeroCells z.cells (grownCap w n 0 e - n)) e)) := by
 have hbn : n * i.bytes ≤ 281474976710656 := Nat.le_trans (Nat.mul_le_mul h63 hb) (by decide)
 have hn : n ≠ 0 := by omega
 have hs : i.size ≠ 0 := by omega
 have h63' : ¬ (9223372036854775807 < (n : Int)) := by omega
 have h48' : ¬ (281474976710656 < Builtin.nextslicecap n 0 * i.bytes) := by rw [nextslicecap_zero h0]; omega
 have hw : IntKind.i64.wrap (n : Int) = n := by rw [IntKind.wrap_i64]; omega
 have hneg : ¬ ((n : Int) < 0) := by omega
 have h48 : ¬ (281474976710656 < (n : Int) * (i.bytes : Int)) := by rw [← Int.natCast_mul]; omega
 simp [Builtin.append_, run_underlying ht, run_underlying hti, sizeOf, typeInfo, zeroValue, hi, hz, asInt, asIntOf, hw, hneg, h48, hn, hs, h63', h48', Question.forced, run_firstCells_none, newRow, grownCap]
 intro h
 rcases Nat.mul_eq_zero.1 h with h | h
 · omega
 · omega
theorem wpList_makeNil {P : Program} {ops : Array Oper} {rest : List Oper} {o : Oper} {a : Act} {Q : Exit → Act → World → Prop} {w : World} (hgd : o.guard = none) (s x : Operand) (t ti : TypeId) (ho : o.op = .call { callee := .builtin .append, args := #[s, x], argTypes := #[t, ti] })
   (R : Rd α) {F : Nat → Prop} {e : TypeId} {bytes : Nat} {k : IntKind} (hE : El P t e R.sz bytes) (hti : P.underlying ti = some (.int k)) (hs : a.eval s = .slice none 0 0) {n : Nat} (hx : a.eval x = .int .i64 n) (h0 : 0 < n) (hn : n ≤ 100000000) (hb : bytes ≤ 1000)
   (h : ∀ cap w', n ≤ cap → cap ≤ maxLen → R.Own F w.heap.size e w' (.slice (some ⟨w.heap.size, 0, none⟩) 0 cap) [] → Ext w w' → wpList P ops Q rest (a.put o.dst (.slice (some ⟨w.heap.size, 0, none⟩) n cap)) w') : wpList P ops Q (o :: rest) a w := by
 obtain ⟨hu, i, z, hi, hz, hsz, hby, hzs, hp⟩ := hE
 have hr := run_append_make_nil (P := P) w t ti o.type e k i z hu hti hi hz n h0 hn (by omega) (by omega)
 have hge := grownCap_ge w n 0 e
 have hle := grownCap_le_maxLen w n 0 e (by unfold maxLen; omega)
 refine wpList_plain hgd fun K hK => ?_
 unfold Oper.wp execOp
 simp only [ho, resolve, invoke, builtin, Sem.run_bind, Sem.run_pure, Result.andThen_ok, List.map_toArray, List.map_cons, List.map_nil, hs, hx, hr]
 refine hK _ _ (h _ _ hge hle ?_ ((Ext.refl w).drew.alloc _))
 exact ⟨[], World.ownsRow_made w.drew _ _ (Nat.le_refl _) hle (by simp only [Array.size_append, size_zeroCells, hzs, ← Nat.add_mul]; congr 1; omega), fun k x h => by simp at h⟩
/-! ### kinds of data -/
def rdInt (k : IntKind) : Rd Int where
 sz := 1
 C := fun _ _ cs n => cs = [.int k n]
 len := by rintro _ _ _ _ rfl; rfl
 keep := fun _ h => h
 narrow := fun _ h => h
 one := by rintro _ _ _ _ rfl u hu; simp at hu; subst hu; rfl
def rdStr : Rd ByteArray where
 sz := 1
 C := fun _ _ cs s => cs = [.string s]
 len := by rintro _ _ _ _ rfl; rfl
 keep := fun _ h => h
 narrow := fun _ h => h
 one := by rintro _ _ _ _ rfl u hu; simp at hu; subst hu; rfl
abbrev Val := Int × ByteArray
def rdVal : Rd Val where
 sz := 2
 C := fun _ _ cs x => cs = [.int .i64 x.1, .string x.2]
 len := by rintro _ _ _ _ rfl; rfl
 keep := fun _ h => h
 narrow := fun _ h => h
 one := by rintro _ _ _ _ rfl u hu; simp at hu; rcases hu with rfl | rfl <;> rfl
def rdSl (R : Rd α) (hsz : 0 < R.sz) : Rd (List α) where
 sz := 1
 C := fun F w cs l => ∃ A c, cs = [.slice A l.length c] ∧ R.Sl F w A c l
 len := by rintro _ _ _ _ ⟨A, c, rfl, _⟩; rfl
 keep := by rintro _ _ _ _ _ k ⟨A, c, rfl, h⟩; exact ⟨A, c, rfl, h.keep k⟩
 narrow := by rintro _ _ _ _ _ k ⟨A, c, rfl, h⟩; exact ⟨A, c, rfl, h.narrow hsz k⟩
 one := by rintro _ _ _ _ ⟨A, c, rfl, _⟩ u hu; simp at hu; subst hu; rfl
abbrev Row := List Val
def rdRow : Rd Row := rdSl rdVal (by decide)
def rdRows : Rd (List Row) := rdSl rdRow (by decide)
theorem rdInt.at_ {k : IntKind} {F : Nat → Prop} {w : World} {b o : Nat} {n : Int} (h : (rdInt k).At F w b o n) : w.cell? ⟨b, o, none⟩ = some (.int k n) := by
 obtain ⟨_, cs, rfl, h⟩ := h; exact h 0 _ rfl
theorem rdStr.at_ {F : Nat → Prop} {w : World} {b o : Nat} {n : ByteArray} (h : rdStr.At F w b o n) : w.cell? ⟨b, o, none⟩ = some (.string n) := by
 obtain ⟨_, cs, rfl, h⟩ := h; exact h 0 _ rfl
theorem rdVal.at_ {F : Nat → Prop} {w : World} {b o : Nat} {n : Val} (h : rdVal.At F w b o n) : w.cell? ⟨b, o, none⟩ = some (.int .i64 n.1) ∧ w.cell? ⟨b, o + 1, none⟩ = some (.string n.2) := by
 obtain ⟨_, cs, rfl, h⟩ := h; exact ⟨h 0 _ rfl, h 1 _ rfl⟩
theorem rdSl.at_ {R : Rd α} {hsz : 0 < R.sz} {F : Nat → Prop} {w : World} {b o : Nat} {l : List α} (h : (rdSl R hsz).At F w b o l) : ∃ A c, w.cell? ⟨b, o, none⟩ = some (.slice A l.length c) ∧ R.Sl F w A c l := by
 obtain ⟨_, cs, ⟨A, c, rfl, hs⟩, h⟩ := h; exact ⟨A, c, h 0 _ rfl, hs⟩

theorem int_get {kd : IntKind} {F : Nat → Prop} {w : World} {A : Option Addr} {c : Nat} {l : List Int} (h : (rdInt kd).Sl F w A c l) {k : Nat} (hk : k < l.length) : ∃ b o, A = some ⟨b, o, none⟩ ∧ w.cell? ⟨b, o + k, none⟩ = some (.int kd l[k]) := by
 obtain ⟨b, o, e, ha⟩ := h.get hk
 have := rdInt.at_ ha
 rw [show k * (rdInt kd).sz = k from Nat.mul_one k] at this
 exact ⟨b, o, e, this⟩
theorem str_get {F : Nat → Prop} {w : World} {A : Option Addr} {c : Nat} {l : List ByteArray} (h : rdStr.Sl F w A c l) {k : Nat} (hk : k < l.length) : ∃ b o, A = some ⟨b, o, none⟩ ∧ w.cell? ⟨b, o + k, none⟩ = some (.string l[k]) := by
 obtain ⟨b, o, e, ha⟩ := h.get hk
 have := rdStr.at_ ha
 rw [show k * rdStr.sz = k from Nat.mul_one k] at this
 exact ⟨b, o, e, this⟩
theorem val_get {F : Nat → Prop} {w : World} {A : Option Addr} {c : Nat} {l : List Val} (h : rdVal.Sl F w A c l) {k : Nat} (hk : k < l.length) : ∃ b o, A = some ⟨b, o, none⟩ ∧ w.cell? ⟨b, o + k * 2, none⟩ = some (.int .i64 l[k].1) ∧ w.cell? ⟨b, o + k * 2 + 1, none⟩ = some (.string l[k].2) := by
 obtain ⟨b, o, e, ha⟩ := h.get hk
 exact ⟨b, o, e, rdVal.at_ ha⟩
theorem sl_get {R : Rd α} {hsz : 0 < R.sz} {F : Nat → Prop} {w : World} {A : Option Addr} {c : Nat} {l : List (List α)} (h : (rdSl R hsz).Sl F w A c l) {k : Nat} (hk : k < l.length) :
   ∃ b o A2 c2, A = some ⟨b, o, none⟩ ∧ w.cell? ⟨b, o + k, none⟩ = some (.slice A2 l[k].length c2) ∧ R.Sl F w A2 c2 l[k] := by
 obtain ⟨b, o, e, ha⟩ := h.get hk
 obtain ⟨A2, c2, h1, h2⟩ := rdSl.at_ ha
 rw [show k * (rdSl R hsz).sz = k from Nat.mul_one k] at h1
 exact ⟨b, o, A2, c2, e, h1, h2⟩
theorem int_lit {kd : IntKind} {F : Nat → Prop} {w : World} {g : Nat} {cs : Array Value} {T : TypeId} {fr : Nat × Nat} (h : w.heap[g]? = some (.cells cs T fr)) (hF : ¬ F g) {l : List Int} (hl : cs.toList = l.map (.int kd)) (hn : l.length ≤ maxLen) : (rdInt kd).Sl F w (some ⟨g, 0, none⟩) l.length l :=
 ⟨Nat.le_refl _, hn, (fun h => by cases h), fun k x hk => ⟨g, 0, rfl, hF, [.int kd x], rfl, fun j u hj => by
   match j, hj with
   | 0, hj =>
     simp only [List.getElem?_cons_zero, Option.some.injEq] at hj
     subst hj
     rw [show k * (rdInt kd).sz = k from Nat.mul_one k, Nat.zero_add, Nat.add_zero, cell_of_row w g k cs T fr h, ← Array.getElem?_toList, hl, List.getElem?_map, hk]
     rfl⟩⟩
theorem lit_one {R : Rd α} (h1 : R.sz = 1) {F : Nat → Prop} {w : World} {g : Nat} {cs : Array Value} {T : TypeId} {fr : Nat × Nat} (h : w.heap[g]? = some (.cells cs T fr)) (hF : ¬ F g) {l : List α} {c : Nat} (hc : c = l.length) (hn : l.length ≤ maxLen) (hl : ∀ (k : Nat) x, l[k]? = some x → ∃ u, cs[k]? = some u ∧ R.C F w [u] x) : R.Sl F w (some ⟨g, 0, none⟩) c l := by
 subst hc
 exact ⟨Nat.le_refl _, hn, (fun h => by cases h), fun k x hk => by
   obtain ⟨u, hu, hC⟩ := hl k x hk
   refine ⟨g, 0, rfl, hF, [u], hC, fun j v hj => ?_⟩
   match j, hj with
   | 0, hj =>
     simp only [List.getElem?_cons_zero, Option.some.injEq] at hj
     subst hj
     rw [h1, Nat.mul_one, Nat.zero_add, Nat.add_zero, cell_of_row w g k cs T fr h, hu]⟩
theorem take_snoc (l : List α) {k : Nat} (h : k < l.length) : l.take (k + 1) = l.take k ++ [l[k]] := by rw [List.take_succ_eq_append_getElem h]
end KB
namespace K1
open Go Go.RowKit KB
theorem within (n lo hi : Int) (w : World) : Calls Tryz.prog 61 #[.int .i64 n, .int .i64 lo, .int .i64 hi] w fun e w' => e = .returned (.bool (decide (lo ≤ n ∧ n ≤ hi))) ∧ w = w' := by
 by_cases h : lo ≤ n
 · have h1 : decide (lo ≤ n) = true := decide_eq_true h
   by_cases k : n ≤ hi
   · have k1 : decide (n ≤ hi) = true := decide_eq_true k
     go_enter Tryz.func61, Tryz.ntmps61
     go_wp2
     go_ret
     simp [h, k]
   · have k1 : decide (n ≤ hi) = false := decide_eq_false k
     go_enter Tryz.func61, Tryz.ntmps61
     go_wp2
     go_ret
     simp [h, k]
 · have h1 : decide (lo ≤ n) = false := decide_eq_false h
   go_enter Tryz.func61, Tryz.ntmps61
   go_wp2
   go_ret
   simp [h]
def IsFn (fn : Nat) : Prop := ∀ (args : Array Value) (W : World), (callFunc fn args).run Tryz.prog W = .ok (.enter fn args) W
theorem idxInt (F : Nat → Prop) (A : Option Addr) (c : Nat) (l : List Int) (fn : Nat) (caps : Array Value) (w : World) (hA : (rdInt .i64).Sl F w A c l) (hn : l.length ≤ 1000000)
   (hen : IsFn fn) (hf : ∀ W k (hk : k < l.length), Ext w W → Calls Tryz.prog fn (#[.int .i64 l[k]] ++ caps) W fun e w' => e = .returned (.bool false) ∧ Ext W w') :
   Calls Tryz.prog 168 #[.slice A l.length c, .func (.func fn) #[] caps] w fun e w' => e = .returned (.int .i64 (-1)) ∧ Ext w w' := by
 go_enter Tryz.func168, Tryz.ntmps168
 go_wp2_with (fail)
 go_loopw [5, 8] (fun _ i wr => ∃ k : Nat, i = .int .i64 k ∧ k ≤ l.length ∧ Ext w wr) (fun _ i _ => l.length - (intOf i).toNat)
 case atStart => exact ⟨0, by go_num, Nat.zero_le _, Ext.refl _⟩
 case round =>
   obtain ⟨k, rfl, hkl, hE⟩ := hrel
   by_cases hlt : k < l.length
   · obtain ⟨b, o, rfl, hc⟩ := int_get (hA.ext hE) hlt
     have hent := hen (#[.int .i64 l[k]] ++ caps)
     go_wp2_with (fail)
     refine (hf wr k hlt hE).mono ?_; rintro e w1 ⟨rfl, hb⟩
     go_wp2
     go_roundw
     case rel => exact ⟨k + 1, by go_num, by omega, hE.trans hb⟩
     case measure => simp [intOf]; omega
   · go_wp2
     go_ret
     exact ⟨rfl, hE⟩
theorem hasInt (F : Nat → Prop) (A : Option Addr) (c : Nat) (l : List Int) (fn : Nat) (caps : Array Value) (w : World) (hA : (rdInt .i64).Sl F w A c l) (hn : l.length ≤ 1000000) (hen : IsFn fn)
   (hf : ∀ W k (hk : k < l.length), Ext w W → Calls Tryz.prog fn (#[.int .i64 l[k]] ++ caps) W fun e w' => e = .returned (.bool false) ∧ Ext W w') :
   Calls Tryz.prog 84 #[.slice A l.length c, .func (.func fn) #[] caps] w fun e w' => e = .returned (.bool false) ∧ Ext w w' := by
 go_enter Tryz.func84, Tryz.ntmps84
 go_wp2_with (fail)
 refine (idxInt F A c l fn caps w hA hn hen hf).mono ?_; rintro e w1 ⟨rfl, hb⟩
 go_wp2
 go_ret
 exact ⟨rfl, hb⟩
/-! ### schemas -/
structure Sch where
 types : List Int
 keys : Nat
 mode : Nat
 grain : Nat
abbrev schV (A : Option Addr) (c : Nat) (s : Sch) : Value := .agg #[.slice A s.types.length c, .int .i64 s.keys, .int .i64 s.mode, .int .i64 s.grain]
def SchAt (F : Nat → Prop) (w : World) (A : Option Addr) (c : Nat) (s : Sch) : Prop := (rdInt .i64).Sl F w A c s.types
structure Sch.Ok (s : Sch) : Prop where
 n1 : 1 ≤ s.types.length
 n2 : s.types.length ≤ 64
 t : ∀ t ∈ s.types, 1 ≤ t ∧ t ≤ 3
 k1 : 1 ≤ s.keys
 k2 : s.keys ≤ s.types.length
 m1 : 1 ≤ s.mode
 m2 : s.mode ≤ 3
 g1 : 1 ≤ s.grain
 g2 : s.grain ≤ 64
theorem oddType (t : Int) (h : 1 ≤ t ∧ t ≤ 3) (w : World) : Calls Tryz.prog 83 #[.int .i64 t] w fun e w' => e = .returned (.bool false) ∧ Ext w w' := by
 go_enter Tryz.func83, Tryz.ntmps83
 go_wp2_with (fail)
 refine (within _ _ _ _).mono ?_; rintro e w1 ⟨rfl, rfl⟩
 rw [decide_eq_true h]
 go_wp2
 go_ret
 exact ⟨rfl, Ext.refl _⟩
theorem checkC (F : Nat → Prop) (A : Option Addr) (c : Nat) (s : Sch) (w : World) (hA : SchAt F w A c s) (hs : s.Ok) :
   Calls Tryz.prog 35 #[schV A c s] w fun e w' => e = .returned (.int .i64 0) ∧ Ext w w' := by
 obtain ⟨h1, h2, h3, h4, h5, h6, h7, h8, h9⟩ := hs
 go_enter Tryz.func35, Tryz.ntmps35
 go_wp2_with (fail)
 refine (within _ _ _ _).mono ?_; rintro e w1 ⟨rfl, rfl⟩
 rw [decide_eq_true (by omega)]
 go_wp2_with (fail)
 refine (hasInt F A c s.types _ #[] _ (Rd.Sl.ext hA ((Ext.refl w).alloc _)) (by omega) (fun _ _ => rfl) (fun W k hk _ => oddType _ (h3 _ (List.getElem_mem hk)) W)).mono ?_; rintro e w2 ⟨rfl, hb⟩
 have hc := hb.cs
 go_wp2_with (refine (within _ _ _ _).mono ?_; rintro e w1 ⟨rfl, rfl⟩; rw [decide_eq_true (by omega)])
 go_ret
 exact ⟨rfl, ((Ext.refl w).alloc _).trans hb⟩
end K1
end Go.Proofs.YtbjeejimedhniaaGreatDoor
namespace Go.Proofs
open Go.Shelf
def Tryz.lays106_ren : Go.Shelf.Ren := ⟨fun | 106 => 220 | 213 => 301 | 265 => 340 | n => n, fun | 9 => 9 | 3 => 3 | n => n, fun | n => n⟩
theorem Tryz.lays106 : Go.Proofs.Lays.n106 Tryz.prog Tryz.lays106_ren := {
  mixed := by kernel_rfl
  f106 := Tryz.func220.trans (congrArg some (by kernel_rfl))
  f213 := Tryz.func301.trans (congrArg some (by kernel_rfl))
  f265 := Tryz.func340.trans (congrArg some (by kernel_rfl))
  t3 := Tryz.underlying3
  a3 := Tryz.isAgg3
  z3 := Tryz.sizeOf3
  v3 := Tryz.zeroValue3
  t9 := Tryz.underlying9
  a9 := Tryz.isAgg9
  z9 := Tryz.sizeOf9
  v9 := Tryz.zeroValue9 }
open Go.RowKit in
theorem Tryz.strings_Compare (a b : ByteArray) (w : World) :
    Calls Tryz.prog 220 #[.string a, .string b] w fun e w' => e = .returned (.int .i64 (Lib.compareBytes a.data.toList b.data.toList)) ∧ w' = w := Any.strings_Compare Tryz.lays106 a b w
end Go.Proofs
