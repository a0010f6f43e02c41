/- Contracts of the program's functions, as the walks of the law use them. -/
import Derived.Lib.Bytealg
import Derived.Test.YtbjeejimedhniaaGreatDoorC2
import Derived.Test.YtbjeejimedhniaaGreatDoorProg
import Derived.KernelRfl
import Derived.Maps.OwnSet
import Derived.Maps.Views
import Derived.Maps.RangeWalk
import Derived.DeepKeys4
import Derived.BigRegion
import Derived.Test.YtbjeejimedhniaaGreatDoorC4
import Derived.Test.YtbjeejimedhniaaGreatDoorC8
import Derived.Test.YtbjeejimedhniaaGreatDoorC3
import Derived.Test.YtbjeejimedhniaaGreatDoorC13
import Derived.Test.YtbjeejimedhniaaGreatDoorC12
namespace Go.Proofs.YtbjeejimedhniaaGreatDoor
namespace P5
variable {β γ : Type}
def ltN (a b : ByteArray) : Prop := Go.Lib.compareBytes a.data.toList b.data.toList < 0
instance (a b : ByteArray) : Decidable (ltN a b) := inferInstanceAs (Decidable (_ < _))
theorem cb_refl : ∀ a : List UInt8, Go.Lib.compareBytes a a = 0
  | [] => rfl
  | a :: as1 => by rw [Go.Lib.compareBytes, if_neg (UInt8.lt_irrefl a), if_neg (UInt8.lt_irrefl a)]; exact cb_refl as1
theorem cb_eq : ∀ a b : List UInt8, Go.Lib.compareBytes a b = 0 → a = b
  | [], [] => fun _ => rfl
  | [], _ :: _ => fun h => by simp [Go.Lib.compareBytes] at h
  | _ :: _, [] => fun h => by simp [Go.Lib.compareBytes] at h
  | a :: as1, b :: bs => fun h => by
    rw [Go.Lib.compareBytes] at h
    by_cases h1 : a < b
    · rw [if_pos h1] at h; exact absurd h (by decide)
    · rw [if_neg h1] at h
      by_cases h2 : b < a
      · rw [if_pos h2] at h; exact absurd h (by decide)
      · rw [if_neg h2] at h
        have : a = b := by
          apply UInt8.toNat_inj.1
          simp only [UInt8.lt_iff_toNat_lt] at h1 h2; omega
        rw [this, cb_eq as1 bs h]
theorem cb_lt_trans : ∀ a b d : List UInt8, Go.Lib.compareBytes a b < 0 → Go.Lib.compareBytes b d < 0 → Go.Lib.compareBytes a d < 0
  | [], [], _ => fun h _ => h.elim |> fun _ => by simp [Go.Lib.compareBytes] at h
  | [], _ :: _, [] => fun _ h => by simp [Go.Lib.compareBytes] at h
  | [], _ :: _, _ :: _ => fun _ _ => by simp [Go.Lib.compareBytes]
  | _ :: _, [], _ => fun h _ => by simp [Go.Lib.compareBytes] at h
  | _ :: _, _ :: _, [] => fun _ h => by simp [Go.Lib.compareBytes] at h
  | a :: as1, b :: bs, d :: ds => fun h g => by
    have ih := cb_lt_trans as1 bs ds
    rw [Go.Lib.compareBytes] at h g ⊢
    simp only [UInt8.lt_iff_toNat_lt] at h g ⊢
    rcases Nat.lt_trichotomy a.toNat b.toNat with e | e | e
    · rcases Nat.lt_trichotomy b.toNat d.toNat with f | f | f
      · rw [if_pos (by omega)]; decide
      · rw [if_pos (by omega)]; decide
      · rw [if_neg (by omega), if_pos f] at g; exact absurd g (by decide)
    · rw [if_neg (by omega), if_neg (by omega)] at h
      rcases Nat.lt_trichotomy b.toNat d.toNat with f | f | f
      · rw [if_pos (by omega)]; decide
      · rw [if_neg (by omega), if_neg (by omega)] at g ⊢; exact ih h g
      · rw [if_neg (by omega), if_pos f] at g; exact absurd g (by decide)
    · rw [if_neg (by omega), if_pos e] at h; exact absurd h (by decide)
theorem cb_total : ∀ a b : List UInt8, 0 < Go.Lib.compareBytes a b → Go.Lib.compareBytes b a < 0
  | [], [] => fun h => by simp [Go.Lib.compareBytes] at h
  | [], _ :: _ => fun h => by simp [Go.Lib.compareBytes] at h
  | _ :: _, [] => fun _ => by simp [Go.Lib.compareBytes]
  | a :: as1, b :: bs => fun h => by
    have ih := cb_total as1 bs
    rw [Go.Lib.compareBytes] at h ⊢
    simp only [UInt8.lt_iff_toNat_lt] at h ⊢
    rcases Nat.lt_trichotomy a.toNat b.toNat with e | e | e
    · rw [if_pos e] at h; exact absurd h (by decide)
    · rw [if_neg (by omega), if_neg (by omega)] at h ⊢; exact ih h
    · rw [if_pos e]; decide
theorem ba_eq {a b : ByteArray} (h : a.data.toList = b.data.toList) : a = b := by
  cases a; cases b; simp at h; rw [h]
theorem ltN_irrefl (a : ByteArray) : ¬ ltN a a := by unfold ltN; rw [cb_refl]; decide
theorem ltN_trans {a b d : ByteArray} (h : ltN a b) (g : ltN b d) : ltN a d := cb_lt_trans _ _ _ h g
theorem ltN_total {a b : ByteArray} (h : ¬ ltN a b) (g : a ≠ b) : ltN b a := by
  unfold ltN at *
  rcases Int.lt_trichotomy (Go.Lib.compareBytes a.data.toList b.data.toList) 0 with e | e | e
  · exact absurd e h
  · exact absurd (ba_eq (cb_eq _ _ e)) g
  · exact cb_total _ _ e
/-- Laid under a name. -/
def putA (n : ByteArray) (x : β) : List (ByteArray × β) → List (ByteArray × β)
  | [] => [(n, x)]
  | (m, y) :: l => if n = m then (n, x) :: l else if ltN n m then (n, x) :: (m, y) :: l else (m, y) :: putA n x l
def delA (n : ByteArray) (l : List (ByteArray × β)) : List (ByteArray × β) := l.filter fun p => decide (p.1 ≠ n)
def getA (n : ByteArray) : List (ByteArray × β) → Option β
  | [] => none
  | (m, y) :: l => if n = m then some y else getA n l
abbrev SrtA (l : List (ByteArray × β)) : Prop := l.Pairwise fun p q => ltN p.1 q.1
theorem getA_put (n m : ByteArray) (x : β) : ∀ l, getA m (putA n x l) = if m = n then some x else getA m l
  | [] => by simp [putA, getA]
  | (k, y) :: l => by
    have ih := getA_put n m x l
    rw [putA]
    by_cases h : n = k
    · subst h
      rw [if_pos rfl, getA, getA]
      by_cases e : m = n
      · rw [if_pos e, if_pos e]
      · rw [if_neg e, if_neg e, if_neg e]
    · rw [if_neg h]
      by_cases g : ltN n k
      · rw [if_pos g, getA]
      · rw [if_neg g, getA, ih]
        by_cases e : m = n
        · subst e; rw [if_neg h, if_pos rfl, if_pos rfl]
        · rw [if_neg e, if_neg e, getA]
theorem getA_del (n m : ByteArray) : ∀ l : List (ByteArray × β), getA m (delA n l) = if m = n then none else getA m l
  | [] => by simp [delA, getA]
  | (k, y) :: l => by
    have ih := getA_del n m l
    rw [delA] at ih ⊢
    rw [List.filter_cons]
    by_cases h : k = n
    · subst h
      rw [if_neg (by simp), ih]
      by_cases e : m = k
      · rw [if_pos e, if_pos e]
      · rw [if_neg e, if_neg e, getA, if_neg e]
    · rw [if_pos (by simpa using h), getA, getA, ih]
      by_cases e : m = n
      · subst e; rw [if_pos rfl, if_neg (fun q => h q.symm), if_pos rfl]
      · rw [if_neg e, if_neg e]
theorem mem_putA {n : ByteArray} {x : β} {p : ByteArray × β} : ∀ {l}, p ∈ putA n x l → p = (n, x) ∨ p ∈ l
  | [], h => by simp [putA] at h; exact .inl h
  | (m, y) :: l, h => by
    rw [putA] at h
    split at h
    · rcases List.mem_cons.1 h with e | e
      · exact .inl e
      · exact .inr (List.mem_cons_of_mem _ e)
    · split at h
      · rcases List.mem_cons.1 h with e | e
        · exact .inl e
        · exact .inr e
      · rcases List.mem_cons.1 h with e | e
        · exact .inr (by rw [e]; exact List.mem_cons_self ..)
        · rcases mem_putA e with e | e
          · exact .inl e
          · exact .inr (List.mem_cons_of_mem _ e)
theorem srt_put (n : ByteArray) (x : β) : ∀ l, SrtA l → SrtA (putA n x l)
  | [], _ => by simp [putA]
  | (m, y) :: l, h => by
    obtain ⟨h1, h2⟩ := List.pairwise_cons.1 h
    rw [putA]
    by_cases e : n = m
    · subst e; rw [if_pos rfl]; exact List.pairwise_cons.2 ⟨h1, h2⟩
    · rw [if_neg e]
      by_cases g : ltN n m
      · rw [if_pos g]
        refine List.pairwise_cons.2 ⟨fun p hp => ?_, h⟩
        rcases List.mem_cons.1 hp with q | q
        · rw [q]; exact g
        · exact ltN_trans g (h1 p q)
      · rw [if_neg g]
        refine List.pairwise_cons.2 ⟨fun p hp => ?_, srt_put n x l h2⟩
        rcases mem_putA hp with q | q
        · rw [q]; exact ltN_total g e
        · exact h1 p q
theorem srt_del (n : ByteArray) (l : List (ByteArray × β)) (h : SrtA l) : SrtA (delA n l) := h.filter _
theorem getA_mem {n : ByteArray} {x : β} : ∀ {l : List (ByteArray × β)}, getA n l = some x → (n, x) ∈ l
  | [], h => by cases h
  | (m, y) :: l, h => by
    rw [getA] at h
    split at h
    · rename_i e; cases h; rw [e]; exact List.mem_cons_self ..
    · exact List.mem_cons_of_mem _ (getA_mem h)
theorem mem_getA {n : ByteArray} {x : β} : ∀ {l : List (ByteArray × β)}, SrtA l → (n, x) ∈ l → getA n l = some x
  | [], _, h => by cases h
  | (m, y) :: l, hs, h => by
    obtain ⟨h1, h2⟩ := List.pairwise_cons.1 hs
    rw [getA]
    rcases List.mem_cons.1 h with e | e
    · cases e; rw [if_pos rfl]
    · have hne : ¬ n = m := fun q => by
        have := h1 _ e
        rw [q] at this
        exact ltN_irrefl _ this
      rw [if_neg hne]
      exact mem_getA h2 e
theorem getA_none {n : ByteArray} {l : List (ByteArray × β)} : getA n l = none ↔ n ∉ l.map (·.1) := by
  induction l with
  | nil => simp [getA]
  | cons p l ih =>
    obtain ⟨m, y⟩ := p
    rw [getA, List.map_cons, List.mem_cons]
    by_cases e : n = m
    · subst e; simp
    · rw [if_neg e, ih]; simp [e]
theorem put_length (n : ByteArray) (x : β) : ∀ l : List (ByteArray × β), SrtA l → (putA n x l).length = if (getA n l).isSome then l.length else l.length + 1
  | [], _ => by simp [putA, getA]
  | (m, y) :: l, h => by
    obtain ⟨h1, h2⟩ := List.pairwise_cons.1 h
    have ih := put_length n x l h2
    rw [putA, getA]
    by_cases e : n = m
    · rw [if_pos e, if_pos e]; simp
    · rw [if_neg e, if_neg e]
      by_cases g : ltN n m
      · rw [if_pos g]
        have : getA n l = none := getA_none.2 (fun hm => by
          obtain ⟨p, hp, hpn⟩ := List.mem_map.1 hm
          have := h1 p hp
          rw [hpn] at this
          exact ltN_irrefl _ (ltN_trans g this))
        rw [this]; simp
      · rw [if_neg g, List.length_cons, ih]; split <;> simp
theorem del_length (n : ByteArray) (l : List (ByteArray × β)) : (delA n l).length ≤ l.length := List.length_filter_le _ _
/-- A name's own place. -/
theorem del_length' (n : ByteArray) : ∀ l : List (ByteArray × β), SrtA l → (delA n l).length + (if (getA n l).isSome then 1 else 0) = l.length
  | [], _ => by simp [delA, getA]
  | (m, y) :: l, h => by
    obtain ⟨h1, h2⟩ := List.pairwise_cons.1 h
    have ih := del_length' n l h2
    rw [delA] at ih ⊢
    rw [getA, List.filter_cons]
    by_cases e : n = m
    · subst e
      have : getA n l = none := getA_none.2 (fun hm => by
        obtain ⟨p, hp, hpn⟩ := List.mem_map.1 hm
        have := h1 p hp
        rw [hpn] at this
        exact ltN_irrefl _ this)
      rw [this] at ih
      rw [if_neg (by simp), if_pos rfl]
      simp at ih ⊢
      exact ih
    · rw [if_pos (by simpa using fun q => e q.symm), if_neg e, List.length_cons, List.length_cons]
      omega
/-- The sum of what stands there. -/
def total (f : β → Nat) (l : List (ByteArray × β)) : Nat := (l.map fun p => f p.2).sum
theorem total_put (f : β → Nat) (n : ByteArray) (x : β) : ∀ l : List (ByteArray × β), SrtA l → total f (putA n x l) + (match getA n l with | some y => f y | none => 0) = total f l + f x
  | [], _ => by simp [putA, getA, total]
  | (m, y) :: l, h => by
    obtain ⟨h1, h2⟩ := List.pairwise_cons.1 h
    have ih := total_put f n x l h2
    rw [putA, getA]
    by_cases e : n = m
    · rw [if_pos e, if_pos e]; simp [total]; omega
    · rw [if_neg e, if_neg e]
      by_cases g : ltN n m
      · rw [if_pos g]
        have : getA n l = none := getA_none.2 (fun hm => by
          obtain ⟨p, hp, hpn⟩ := List.mem_map.1 hm
          have := h1 p hp
          rw [hpn] at this
          exact ltN_irrefl _ (ltN_trans g this))
        rw [this]; simp [total]; omega
      · rw [if_neg g]; simp only [total, List.map_cons, List.sum_cons] at ih ⊢; omega
theorem total_del (f : β → Nat) (n : ByteArray) : ∀ l : List (ByteArray × β), total f (delA n l) ≤ total f l
  | [] => by simp [delA, total]
  | (m, y) :: l => by
    have ih := total_del f n l
    rw [delA] at ih ⊢
    rw [List.filter_cons]
    split
    · simp only [total, List.map_cons, List.sum_cons] at ih ⊢; omega
    · simp only [total, List.map_cons, List.sum_cons] at ih ⊢; omega
/-- Another reading of each. -/
theorem getA_map (f : β → γ) (n : ByteArray) : ∀ l : List (ByteArray × β), getA n (l.map fun p => (p.1, f p.2)) = (getA n l).map f
  | [] => rfl
  | (m, y) :: l => by
    rw [List.map_cons, getA, getA, getA_map f n l]
    split <;> rfl
theorem put_map (f : β → γ) (n : ByteArray) (x : β) : ∀ l : List (ByteArray × β), (putA n x l).map (fun p => (p.1, f p.2)) = putA n (f x) (l.map fun p => (p.1, f p.2))
  | [] => rfl
  | (m, y) :: l => by
    have ih := put_map f n x l
    rw [putA, List.map_cons, putA]
    split
    · rfl
    · split
      · rfl
      · rw [List.map_cons, ih]
theorem del_map (f : β → γ) (n : ByteArray) (l : List (ByteArray × β)) : (delA n l).map (fun p => (p.1, f p.2)) = delA n (l.map fun p => (p.1, f p.2)) := by
  rw [delA, delA, List.filter_map]; rfl
theorem srt_map (f : β → γ) {l : List (ByteArray × β)} (h : SrtA l) : SrtA (l.map fun p => (p.1, f p.2)) := List.pairwise_map.2 h
end P5
namespace K33
open Go Go.RowKit Go.Maps
open KB P5
set_option linter.unusedVariables false
set_option linter.unusedSimpArgs false
theorem laidOut : laidOutB Tryz.prog = true := by kernel_rfl
theorem law : Keyed Tryz.prog 211 := Keyed.of_law (deep_law_laid laidOut (m := 2) (by decide) (of_decide_eq_true (by kernel_rfl)) (by kernel_rfl) (by kernel_rfl))
theorem kt : Tryz.prog.keyType 211 = true := by kernel_rfl
theorem cellsW : Tryz.prog.cellsOf 211 = 1 := by kernel_rfl
theorem cellsS : Tryz.prog.cellsOf 9 = 1 := by kernel_rfl
theorem tysz : ∃ n, Tryz.prog.types.size = n + 1 := ⟨490, by kernel_rfl⟩
end K33
namespace K66
open Go Go.RowKit Go.Maps
open KB K1 K2 K3 K5 K33
set_option linter.unusedVariables false
set_option linter.unusedSimpArgs false
set_option maxHeartbeats 2000000
set_option maxRecDepth 100000
theorem kindLaw : Keyed Tryz.prog 373 := Keyed.of_law (deep_law_laid laidOut (m := 2) (by decide) (of_decide_eq_true (by kernel_rfl)) (by kernel_rfl) (by kernel_rfl))
def kf (m : Int) (b : Bool) : Lit := .string (keyBytes [.int .i64 m, .bool b])
abbrev kV (m : Int) (b : Bool) : Value := .agg #[.int .i64 m, .bool b]
theorem kf1t : keyOf Tryz.prog 373 (kV 1 true) = some (kf 1 true) := by kernel_rfl
theorem kf1f : keyOf Tryz.prog 373 (kV 1 false) = some (kf 1 false) := by kernel_rfl
theorem kf2t : keyOf Tryz.prog 373 (kV 2 true) = some (kf 2 true) := by kernel_rfl
theorem kf2f : keyOf Tryz.prog 373 (kV 2 false) = some (kf 2 false) := by kernel_rfl
theorem kf3t : keyOf Tryz.prog 373 (kV 3 true) = some (kf 3 true) := by kernel_rfl
theorem kf3f : keyOf Tryz.prog 373 (kV 3 false) = some (kf 3 false) := by kernel_rfl
abbrev fLast : Value := .func (.func 338) #[] #[]
abbrev fAdd : Value := .func (.func 339) #[] #[]
theorem zeroFn (w : World) : (zeroValue 199).run Tryz.prog w = .ok .nilFunc w := by kernel_rfl
abbrev TJ : List Value := [.nilFunc, fLast, fAdd]
abbrev JES : List (Lit × Value) := [(kf 1 true, fLast), (kf 1 false, fLast), (kf 2 true, fLast), (kf 2 false, fLast), (kf 3 true, fLast), (kf 3 false, fAdd)]
def jVal (b : Nat) : Nat → Value
  | 0 => .map (some b)
  | 1 => kV 1 true
  | 2 => fLast
  | 4 => kV 1 false
  | 5 => fLast
  | 7 => kV 2 true
  | 8 => fLast
  | 10 => kV 2 false
  | 11 => fLast
  | 13 => kV 3 true
  | 14 => fLast
  | 16 => kV 3 false
  | 18 => .map (some b)
  | 19 => .map (some b)
  | _ => undef
noncomputable def jIns : Nat → Option (Lit × DataW Unit)
  | 3 => some (kf 1 true, tblD TJ fLast)
  | 6 => some (kf 1 false, tblD TJ fLast)
  | 9 => some (kf 2 true, tblD TJ fLast)
  | 12 => some (kf 2 false, tblD TJ fLast)
  | 15 => some (kf 3 true, tblD TJ fLast)
  | 17 => some (kf 3 false, tblD TJ fAdd)
  | _ => none
theorem kOk (m : Int) (b : Bool) (hm : m = 1 ∨ m = 2 ∨ m = 3) : keyOf Tryz.prog 373 (kV m b) = some (kf m b) := by
  rcases hm with rfl | rfl | rfl <;> cases b
  all_goals first | exact kf1f | exact kf1t | exact kf2f | exact kf2t | exact kf3f | exact kf3t
theorem kf_inj {m m' : Int} {b b' : Bool} (hm : m = 1 ∨ m = 2 ∨ m = 3) (hm' : m' = 1 ∨ m' = 2 ∨ m' = 3) (h : kf m b = kf m' b') : m = m' ∧ b = b' := by
  have := kindLaw.inj (kOk m b hm) (by rw [kOk m' b' hm', h])
  simpa using this
theorem jIns_ne (i j : Nat) (k k' : Lit) (d d' : DataW Unit) (hi : jIns i = some (k, d)) (hj : jIns j = some (k', d')) (hne : ¬ i = j) : ¬ k = k' := by
  intro hk
  unfold jIns at hi hj
  split at hi
  all_goals first | (cases hi; done) | skip
  all_goals split at hj
  all_goals first | (cases hj; done) | skip
  all_goals first | exact absurd rfl hne | (cases hi; cases hj; have := kf_inj (by simp) (by simp) hk; simp at this)
theorem joinsC (w : World) : Calls Tryz.prog 294 #[] w fun e w' => e = .returned (.map (some w.heap.size)) ∧ TblMap Tryz.prog 373 TJ w' w.heap.size JES ∧ Ext w w' := by
  go_enter Tryz.func294, Tryz.ntmps294
  go_wp2_with (fail)
  refine lit_region (by kernel_rfl) kindLaw (tblElem TJ) (jVal w.heap.size) jIns Tryz.underlying370 (by decide) (litOk_out (n := 15) (by kernel_rfl)).1 (litOk_out (n := 15) (by kernel_rfl)).2.1 (litOk_out (n := 15) (by kernel_rfl)).2.2.1 (litOk_out (n := 15) (by kernel_rfl)).2.2.2 jIns_ne ⟨_, _, rfl, rfl, rfl, rfl, rfl⟩ ?_ ?_
  · intro i o ho hi0 a hv hold
    have h1 : a.eval (.tmp 1) = fLast := hold 1 (noDst_out (by kernel_rfl))
    match i, ho with
    | 0, ho => exact absurd rfl hi0
    | 1, ho =>
      simp only [List.getElem?_toArray, List.getElem?_cons_succ, List.getElem?_cons_zero, Option.some.injEq] at ho
      subst ho
      exact .inl ⟨rfl, ⟨_, rfl⟩, fun w => by kernel_rfl⟩
    | 2, ho =>
      simp only [List.getElem?_toArray, List.getElem?_cons_succ, List.getElem?_cons_zero, Option.some.injEq] at ho
      subst ho
      exact .inl ⟨rfl, ⟨_, rfl⟩, fun w => by rw [BigFrame.run_move _ rfl, h1]; rfl⟩
    | 3, ho =>
      simp only [List.getElem?_toArray, List.getElem?_cons_succ, List.getElem?_cons_zero, Option.some.injEq] at ho
      subst ho
      have e0 := hv _ (Array.mem_of_getElem? (i := 0) rfl) rfl _ _ rfl rfl
      have e1 := hv _ (Array.mem_of_getElem? (i := 1) rfl) rfl _ _ rfl rfl
      have e2 := hv _ (Array.mem_of_getElem? (i := 2) rfl) rfl _ _ rfl rfl
      exact .inr ⟨_, _, _, _, _, rfl, trivial, rfl, rfl, e0, ⟨[], by rw [e2]; exact tblElem_mem (by simp [TJ, jVal])⟩, by rw [e1]; exact kf1t, _, Array.mem_of_getElem? (i := 0) rfl, rfl, rfl⟩
    | 4, ho =>
      simp only [List.getElem?_toArray, List.getElem?_cons_succ, List.getElem?_cons_zero, Option.some.injEq] at ho
      subst ho
      exact .inl ⟨rfl, ⟨_, rfl⟩, fun w => by kernel_rfl⟩
    | 5, ho =>
      simp only [List.getElem?_toArray, List.getElem?_cons_succ, List.getElem?_cons_zero, Option.some.injEq] at ho
      subst ho
      exact .inl ⟨rfl, ⟨_, rfl⟩, fun w => by rw [BigFrame.run_move _ rfl, h1]; rfl⟩
    | 6, ho =>
      simp only [List.getElem?_toArray, List.getElem?_cons_succ, List.getElem?_cons_zero, Option.some.injEq] at ho
      subst ho
      have e0 := hv _ (Array.mem_of_getElem? (i := 0) rfl) rfl _ _ rfl rfl
      have e1 := hv _ (Array.mem_of_getElem? (i := 1) rfl) rfl _ _ rfl rfl
      have e2 := hv _ (Array.mem_of_getElem? (i := 2) rfl) rfl _ _ rfl rfl
      exact .inr ⟨_, _, _, _, _, rfl, trivial, rfl, rfl, e0, ⟨[], by rw [e2]; exact tblElem_mem (by simp [TJ, jVal])⟩, by rw [e1]; exact kf1f, _, Array.mem_of_getElem? (i := 0) rfl, rfl, rfl⟩
    | 7, ho =>
      simp only [List.getElem?_toArray, List.getElem?_cons_succ, List.getElem?_cons_zero, Option.some.injEq] at ho
      subst ho
      exact .inl ⟨rfl, ⟨_, rfl⟩, fun w => by kernel_rfl⟩
    | 8, ho =>
      simp only [List.getElem?_toArray, List.getElem?_cons_succ, List.getElem?_cons_zero, Option.some.injEq] at ho
      subst ho
      exact .inl ⟨rfl, ⟨_, rfl⟩, fun w => by rw [BigFrame.run_move _ rfl, h1]; rfl⟩
    | 9, ho =>
      simp only [List.getElem?_toArray, List.getElem?_cons_succ, List.getElem?_cons_zero, Option.some.injEq] at ho
      subst ho
      have e0 := hv _ (Array.mem_of_getElem? (i := 0) rfl) rfl _ _ rfl rfl
      have e1 := hv _ (Array.mem_of_getElem? (i := 1) rfl) rfl _ _ rfl rfl
      have e2 := hv _ (Array.mem_of_getElem? (i := 2) rfl) rfl _ _ rfl rfl
      exact .inr ⟨_, _, _, _, _, rfl, trivial, rfl, rfl, e0, ⟨[], by rw [e2]; exact tblElem_mem (by simp [TJ, jVal])⟩, by rw [e1]; exact kf2t, _, Array.mem_of_getElem? (i := 0) rfl, rfl, rfl⟩
    | 10, ho =>
      simp only [List.getElem?_toArray, List.getElem?_cons_succ, List.getElem?_cons_zero, Option.some.injEq] at ho
      subst ho
      exact .inl ⟨rfl, ⟨_, rfl⟩, fun w => by kernel_rfl⟩
    | 11, ho =>
      simp only [List.getElem?_toArray, List.getElem?_cons_succ, List.getElem?_cons_zero, Option.some.injEq] at ho
      subst ho
      exact .inl ⟨rfl, ⟨_, rfl⟩, fun w => by rw [BigFrame.run_move _ rfl, h1]; rfl⟩
    | 12, ho =>
      simp only [List.getElem?_toArray, List.getElem?_cons_succ, List.getElem?_cons_zero, Option.some.injEq] at ho
      subst ho
      have e0 := hv _ (Array.mem_of_getElem? (i := 0) rfl) rfl _ _ rfl rfl
      have e1 := hv _ (Array.mem_of_getElem? (i := 1) rfl) rfl _ _ rfl rfl
      have e2 := hv _ (Array.mem_of_getElem? (i := 2) rfl) rfl _ _ rfl rfl
      exact .inr ⟨_, _, _, _, _, rfl, trivial, rfl, rfl, e0, ⟨[], by rw [e2]; exact tblElem_mem (by simp [TJ, jVal])⟩, by rw [e1]; exact kf2f, _, Array.mem_of_getElem? (i := 0) rfl, rfl, rfl⟩
    | 13, ho =>
      simp only [List.getElem?_toArray, List.getElem?_cons_succ, List.getElem?_cons_zero, Option.some.injEq] at ho
      subst ho
      exact .inl ⟨rfl, ⟨_, rfl⟩, fun w => by kernel_rfl⟩
    | 14, ho =>
      simp only [List.getElem?_toArray, List.getElem?_cons_succ, List.getElem?_cons_zero, Option.some.injEq] at ho
      subst ho
      exact .inl ⟨rfl, ⟨_, rfl⟩, fun w => by rw [BigFrame.run_move _ rfl, h1]; rfl⟩
    | 15, ho =>
      simp only [List.getElem?_toArray, List.getElem?_cons_succ, List.getElem?_cons_zero, Option.some.injEq] at ho
      subst ho
      have e0 := hv _ (Array.mem_of_getElem? (i := 0) rfl) rfl _ _ rfl rfl
      have e1 := hv _ (Array.mem_of_getElem? (i := 1) rfl) rfl _ _ rfl rfl
      have e2 := hv _ (Array.mem_of_getElem? (i := 2) rfl) rfl _ _ rfl rfl
      exact .inr ⟨_, _, _, _, _, rfl, trivial, rfl, rfl, e0, ⟨[], by rw [e2]; exact tblElem_mem (by simp [TJ, jVal])⟩, by rw [e1]; exact kf3t, _, Array.mem_of_getElem? (i := 0) rfl, rfl, rfl⟩
    | 16, ho =>
      simp only [List.getElem?_toArray, List.getElem?_cons_succ, List.getElem?_cons_zero, Option.some.injEq] at ho
      subst ho
      exact .inl ⟨rfl, ⟨_, rfl⟩, fun w => by kernel_rfl⟩
    | 17, ho =>
      simp only [List.getElem?_toArray, List.getElem?_cons_succ, List.getElem?_cons_zero, Option.some.injEq] at ho
      subst ho
      have e0 := hv _ (Array.mem_of_getElem? (i := 0) rfl) rfl _ _ rfl rfl
      have e1 := hv _ (Array.mem_of_getElem? (i := 1) rfl) rfl _ _ rfl rfl
      exact .inr ⟨_, _, _, _, _, rfl, trivial, rfl, rfl, e0, ⟨[], (show tblElem TJ fAdd = some (tblD TJ fAdd, []) from tblElem_mem (by simp [TJ]))⟩, by rw [e1]; exact kf3f, _, Array.mem_of_getElem? (i := 0) rfl, rfl, rfl⟩
    | 18, ho =>
      simp only [List.getElem?_toArray, List.getElem?_cons_succ, List.getElem?_cons_zero, Option.some.injEq] at ho
      subst ho
      have e0 := hv _ (Array.mem_of_getElem? (i := 0) rfl) rfl _ _ rfl rfl
      exact .inl ⟨rfl, ⟨_, rfl⟩, fun w => by rw [BigFrame.run_move _ rfl, e0]; rfl⟩
    | 19, ho =>
      simp only [List.getElem?_toArray, List.getElem?_cons_succ, List.getElem?_cons_zero, Option.some.injEq] at ho
      subst ho
      have e0 := hv _ (Array.mem_of_getElem? (i := 0) rfl) rfl _ _ rfl rfl
      exact .inl ⟨rfl, ⟨_, rfl⟩, fun w => by rw [BigFrame.run_assign _ rfl, e0]; rfl⟩
    | k + 20, ho => exact absurd ho (by simp)
  · intro a w' hs hd hv hold hE hD
    have ha := act_of a #[.map (some w.heap.size), fLast, .map (some w.heap.size), kV 1 true, fLast, kV 1 false, fLast, kV 2 true, fLast, kV 2 false, fLast, kV 3 true, fLast, kV 3 false, .map (some w.heap.size)] hs (fun d hdd => by
      match d, hdd with
      | 0, _ => exact hv 19 _ _ rfl rfl
      | 1, _ => exact hold 1 (noDst_out (by kernel_rfl))
      | 2, _ => exact hv 0 _ _ rfl rfl
      | 3, _ => exact hv 1 _ _ rfl rfl
      | 4, _ => exact hv 2 _ _ rfl rfl
      | 5, _ => exact hv 4 _ _ rfl rfl
      | 6, _ => exact hv 5 _ _ rfl rfl
      | 7, _ => exact hv 7 _ _ rfl rfl
      | 8, _ => exact hv 8 _ _ rfl rfl
      | 9, _ => exact hv 10 _ _ rfl rfl
      | 10, _ => exact hv 11 _ _ rfl rfl
      | 11, _ => exact hv 13 _ _ rfl rfl
      | 12, _ => exact hv 14 _ _ rfl rfl
      | 13, _ => exact hv 16 _ _ rfl rfl
      | 14, _ => exact hv 18 _ _ rfl rfl
      | k + 15, h => exact absurd h (by simp)) [] hd
    rw [ha]
    obtain ⟨D, n, h1, h2⟩ := hD
    have hT : TblMap Tryz.prog 373 TJ w' w.heap.size JES := ⟨D, n, h1, fun p hp z => by
      simp only [JES, List.mem_cons, List.not_mem_nil, or_false] at hp
      rcases hp with rfl | rfl | rfl | rfl | rfl | rfl
      · exact h2 3 _ _ (by decide) rfl z
      · exact h2 6 _ _ (by decide) rfl z
      · exact h2 9 _ _ (by decide) rfl z
      · exact h2 12 _ _ (by decide) rfl z
      · exact h2 15 _ _ (by decide) rfl z
      · exact h2 17 _ _ (by decide) rfl z⟩
    go_wp2
    go_ret
    exact ⟨rfl, hT, hE⟩
end K66
namespace K67
open Go Go.RowKit Go.Maps
open KB K1 K2 K3 K5 K9 K33 K66
set_option linter.unusedVariables false
set_option linter.unusedSimpArgs false
set_option maxHeartbeats 2000000
set_option maxRecDepth 100000
theorem lastC (t : Int) (a b : Val) (w : World) : Calls Tryz.prog 338 #[.int .i64 t, valV a, valV b] w fun e w' => e = .returned (valV b) ∧ Ext w w' := by
  have hE := (((Ext.refl w).alloc (.cells #[.int .i64 a.1, .string a.2] 33)).alloc (.cells #[.int .i64 b.1, .string b.2] 33)).alloc (.cells #[.int .i64 b.1, .string b.2] 33)
  have B := blk_new ((w.alloc (.cells #[.int .i64 a.1, .string a.2] 33)).alloc (.cells #[.int .i64 b.1, .string b.2] 33)) (.cells #[.int .i64 b.1, .string b.2] 33)
  rw [World.size_alloc, World.size_alloc] at B
  have e0 := blk_cell B 0
  have e1 := blk_cell B 1
  go_enter Tryz.func338, Tryz.ntmps338
  go_wp2_with (fail)
  refine bodyPost_ret (v := valV b) (by simp [results, Tryz.results338, go_sem, e0, e1]) rfl ?_
  exact ⟨rfl, hE⟩
/-- What is made of two values. -/
def joinOf (m : Nat) (k : Bool) (t : Int) (x y : Val) : Val := if m = 3 ∧ k = false then addV t x y else y
def joinV (m : Nat) (k : Bool) : Value := if m = 3 ∧ k = false then fAdd else fLast
theorem joinLook {w : World} {b : Nat} (h : TblMap Tryz.prog 373 TJ w b JES) (m : Nat) (k : Bool) (h1 : 1 ≤ m) (h3 : m ≤ 3) : (Instr.lookup 370 (.map (some b)) (kV m k) false).run Tryz.prog w = .ok (joinV m k) w := by
  have hm : m = 1 ∨ m = 2 ∨ m = 3 := by omega
  have hl := fun v hv hm2 => h.look kindLaw Tryz.underlying370 (zeroFn w) (by simp [TJ]) (kOk m k (by rcases hm with rfl | rfl | rfl <;> simp)) (v := v) hm2 hv
  rcases hm with rfl | rfl | rfl <;> cases k
  · exact hl fLast (by simp [TJ]) (by simp [JES])
  · exact hl fLast (by simp [TJ]) (by simp [JES])
  · exact hl fLast (by simp [TJ]) (by simp [JES])
  · exact hl fLast (by simp [TJ]) (by simp [JES])
  · exact hl fAdd (by simp [TJ]) (by simp [JES])
  · exact hl fLast (by simp [TJ]) (by simp [JES])
def oneAt (s : Sch) (a b : Row) (i : Nat) : Val := joinOf s.mode (decide (i < s.keys)) (s.types.getD i 0) (a.getD i (0, emp)) (b.getD i (0, emp))
def oneS (s : Sch) (a b : Row) : Row := (List.range s.types.length).map (oneAt s a b)
def oneK (s : Sch) (a b : Row) (k : Nat) : Row := (List.range s.types.length).map fun i => if i < k then oneAt s a b i else (0, emp)
theorem oneK_zero (s : Sch) (a b : Row) : oneK s a b 0 = List.replicate s.types.length (0, emp) := by
  refine List.ext_getElem? fun i => ?_
  simp only [oneK, List.getElem?_map, List.getElem?_replicate, Nat.not_lt_zero, if_false]
  by_cases h : i < s.types.length
  · rw [List.getElem?_range h, if_pos h]; rfl
  · rw [List.getElem?_eq_none (by simp; omega), if_neg h]; rfl
theorem oneK_all (s : Sch) (a b : Row) : oneK s a b s.types.length = oneS s a b := by
  refine List.map_congr_left fun i hi => ?_
  rw [if_pos (List.mem_range.1 hi)]
theorem oneK_succ (s : Sch) (a b : Row) (k : Nat) (hk : k < s.types.length) : oneK s a b (k + 1) = (oneK s a b k).set k (oneAt s a b k) := by
  refine List.ext_getElem? fun i => ?_
  have hl : (oneK s a b k).length = s.types.length := by simp [oneK]
  rw [List.getElem?_set, hl]
  simp only [oneK, List.getElem?_map]
  by_cases h : i < s.types.length
  · rw [List.getElem?_range h]
    by_cases e : k = i
    · subst e; simp [hk]
    · have : (i < k + 1) ↔ (i < k) := by omega
      simp [e, this]
  · rw [List.getElem?_eq_none (l := List.range s.types.length) (by simp; omega), if_neg (by omega)]; rfl
theorem oneK_len (s : Sch) (a b : Row) (k : Nat) : (oneK s a b k).length = s.types.length := by simp [oneK]
theorem own_val {F : Nat → Prop} {B : Nat} {w : World} {g n cap : Nat} {l : List Val} (h : rdVal.Own F B 33 w (.slice (some ⟨g, 0, none⟩) n cap) l) {i : Nat} (hi : i < l.length) (y : Val) :
    rdVal.Own F B 33 ((w.setCell ⟨g, i * 2, none⟩ (.int .i64 y.1)).setCell ⟨g, i * 2 + 1, none⟩ (.string y.2)) (.slice (some ⟨g, 0, none⟩) n cap) (l.set i y) := by
  have h1 := h.setj hi (j := 0) (by decide) (u := .int .i64 y.1) (y := (y.1, l[i].2)) (fun cs hcs => by
    have hcs : cs = [.int .i64 l[i].1, .string l[i].2] := hcs
    subst hcs; rfl)
  have hil : i < (l.set i (y.1, l[i].2)).length := by simpa using hi
  have h2 := h1.setj hil (j := 1) (by decide) (u := .string y.2) (y := y) (fun cs hcs => by
    rw [List.getElem_set_self] at hcs
    have hcs : cs = [.int .i64 y.1, .string l[i].2] := hcs
    subst hcs; rfl)
  rw [List.set_set] at h2
  exact h2
theorem joinFnC (m : Nat) (k : Bool) (t : Int) (x y : Val) (hx : ValOk t x) (hy : ValOk t y) (fn : Nat) (hfn : joinV m k = .func (.func fn) #[] #[]) (w : World) : Calls Tryz.prog fn #[.int .i64 t, valV x, valV y] w fun e w' => e = .returned (valV (joinOf m k t x y)) ∧ Ext w w' := by
  unfold joinV at hfn
  unfold joinOf
  split at hfn
  · rename_i h
    rw [if_pos h]
    injection hfn with h1 _ _
    injection h1 with h1
    subst h1
    exact addC t x y hx hy w
  · rename_i h
    rw [if_neg h]
    injection hfn with h1 _ _
    injection h1 with h1
    subst h1
    exact lastC t x y w
theorem oneC (F : Nat → Prop) (Ax : Option Addr) (cx : Nat) (s : Sch) (hs : s.Ok) (Aa Ab : Option Addr) (ca cb : Nat) (a b : Row) (w : World) (hA : SchAt F w Ax cx s) (ha : rdVal.Sl F w Aa ca a) (hb : rdVal.Sl F w Ab cb b) (oa : RowOk s a) (ob : RowOk s b) (hF : ∀ k, F k → k < w.heap.size) :
    Calls Tryz.prog 216 #[schV Ax cx s, .slice Aa a.length ca, .slice Ab b.length cb] w fun e w' => ∃ A' c', e = .returned (.slice A' (oneS s a b).length c') ∧ rdVal.Sl F w' A' c' (oneS s a b) ∧ Ext w w' := by
  obtain ⟨x, hx⟩ : ∃ x, w.heap.size = x := ⟨_, rfl⟩
  have hn := hs.n2
  have HLA := As.mk oa.len
  have HLB := As.mk ob.len
  have B1 := blk_new w (.cells #[.slice Ax s.types.length cx, .int .i64 s.keys, .int .i64 s.mode, .int .i64 s.grain] 27)
  have hE1 := (Ext.refl w).alloc (.cells #[.slice Ax s.types.length cx, .int .i64 s.keys, .int .i64 s.mode, .int .i64 s.grain] 27)
  go_enter Tryz.func216, Tryz.ntmps216
  go_wp2_with (fail)
  generalize (w.alloc (.cells #[.slice Ax s.types.length cx, .int .i64 s.keys, .int .i64 s.mode, .int .i64 s.grain] 27)) = w1 at *
  refine (joinsC w1).mono ?_; rintro e w2 ⟨rfl, hT, hE2⟩
  have hmb := hT.lt
  generalize w1.heap.size = mb at *
  have B2 := hE2.blk B1
  rw [hx] at B2
  have hE02 := hE1.trans hE2
  (have p0 := blk_cell (B2) 0; have p1 := blk_cell (B2) 1; have p2 := blk_cell (B2) 2; have p3 := blk_cell (B2) 3)
  go_wp2_with (at_make; refine wpList_makeN rfl (.tmp 13) (.tmp 13) 41 rfl rdVal (F := F) (B := w2.heap.size) elVal (n := b.length) rfl rfl rfl (by have := HLB.out; omega) (by decide) (Nat.le_refl _) _ rfl (z0 := .agg #[.int .i64 0, .string ⟨#[]⟩]) (by kernel_rfl) (y0 := (0, emp)) (fun _ _ => rfl) ?_; intro w3 hown hzs3 hE3 hw3; have q0 := hE3.cell p0)
  rw [HLB.out, ← oneK_zero s a b, ← HLB.out] at hown
  have hT3 := hT.ext hE3
  have hE03 := hE02.trans hE3
  generalize hog : w2.heap.size = og at *
  have hogw : w.heap.size ≤ og := by have := hE02.size; omega
  have hA3 : SchAt (fun j => F j ∨ j = og) w3 Ax cx s := Rd.Sl.ext (Rd.Sl.narrow (by decide) hA (fun j hj q => q.elim id (fun e => by omega))) hE03
  have ha3 : rdVal.Sl (fun j => F j ∨ j = og) w3 Aa ca a := Rd.Sl.ext (Rd.Sl.narrow (by decide) ha (fun j hj q => q.elim id (fun e => by omega))) hE03
  have hb3 : rdVal.Sl (fun j => F j ∨ j = og) w3 Ab cb b := Rd.Sl.ext (Rd.Sl.narrow (by decide) hb (fun j hj q => q.elim id (fun e => by omega))) hE03
  have B3 := hE3.blk B2
  have hxo : ¬ x = og := by have := blk_lt B2; omega
  have hmo : ¬ mb = og := by have := hT.lt; omega
  have hk1 := hs.k1
  have hm1 := hs.m1
  have hm2 := hs.m2
  clear hA ha hb hzs3 p0 p1 p2 p3 q0
  go_loopw [18] (fun i wr => ∃ k : Nat, i = .int .i64 k ∧ k ≤ s.types.length ∧ rdVal.Own F og 33 wr (.slice (some ⟨og, 0, none⟩) b.length b.length) (oneK s a b k) ∧ Keep (fun j => j = og) w3 wr) (fun i _ => s.types.length - (intOf i).toNat)
  case atStart => exact ⟨0, by go_num, Nat.zero_le _, hown, Keep.refl _ _⟩
  case round =>
    obtain ⟨k, rfl, hkl, hO, hK⟩ := hrel
    by_cases hlt : k < s.types.length
    · have hka : k < a.length := by rw [HLA.out]; exact hlt
      have hkb : k < b.length := by rw [HLB.out]; exact hlt
      have kF := hK.mono (G := fun j => F j ∨ j = og) (fun _ _ q => .inr q)
      obtain ⟨bt, ot, rfl, ht⟩ := int_get (Rd.Sl.keep hA3 kF) hlt
      obtain ⟨ba, oa', rfl, a0, a1⟩ := val_get (Rd.Sl.keep ha3 kF) hka
      obtain ⟨bb, ob', rfl, b0, b1⟩ := val_get (Rd.Sl.keep hb3 kF) hkb
      have hBr := hK.blk hxo B3
      have hTr := hT3.keep hK hmo
      (have p0 := blk_cell (hBr) 0; have p1 := blk_cell (hBr) 1; have p2 := blk_cell (hBr) 2; have p3 := blk_cell (hBr) 3)
      have d1 : (k : Int) < s.types.length := by omega
      have hjl := fun W (hW : TblMap Tryz.prog 373 TJ W mb JES) => joinLook hW s.mode (decide (k < s.keys)) hm1 hm2
      have hdk : decide ((k : Int) < (s.keys : Int)) = decide (k < s.keys) := by simp
      have hjc := fun fn hfn W => joinFnC s.mode (decide (k < s.keys)) s.types[k] a[k] b[k] (oa.val k hlt hka) (ob.val k hlt hkb) fn hfn W
      have hlk : k < (oneK s a b k).length := by rw [oneK_len]; exact hlt
      obtain ⟨cs0, hcs0, ho0, hof⟩ := hO.cellj (i := k) (by rw [oneK_len]; exact hlt)
      have hcs0 : cs0 = [.int .i64 (oneK s a b k)[k].1, .string (oneK s a b k)[k].2] := hcs0
      subst hcs0
      have o0 := ho0 0 _ rfl
      have o1 := ho0 1 _ rfl
      rw [show k * rdVal.sz + 0 = k * 2 from rfl] at o0
      rw [show k * rdVal.sz + 1 = k * 2 + 1 from rfl] at o1
      have of0 := hof (k * 2)
      have of1 := hof (k * 2 + 1)
      have hogr : og < wr.heap.size := World.block_lt_of_cell? _ _ o0
      clear ho0 hof
      generalize (oneK s a b k)[k] = z0 at o0 o1
      have hyv : oneAt s a b k = joinOf s.mode (decide (k < s.keys)) s.types[k] a[k] b[k] := by
        unfold oneAt
        simp [List.getD_eq_getElem?_getD, hlt, hka, hkb]
      have HY := As.mk hyv
      clear hyv
      have nba : ¬ ba = og := fun e => by have := (Rd.Sl.keep ha3 kF).get hka; obtain ⟨b9, o9, e9, h9, _⟩ := this; cases e9; exact h9 (.inr e)
      have nbb : ¬ bb = og := fun e => by have := (Rd.Sl.keep hb3 kF).get hkb; obtain ⟨b9, o9, e9, h9, _⟩ := this; cases e9; exact h9 (.inr e)
      have HE := As.mk hdk
      by_cases hsum : s.mode = 3 ∧ decide (k < s.keys) = false
      · have hfv : joinV s.mode (decide (k < s.keys)) = fAdd := by unfold joinV; rw [if_pos hsum]
        rw [hfv] at hjl
        have hjc' := hjc 339 hfv
        have HSUM := As.mk hsum
        clear hjc hsum hfv
        have keep : ∀ w', Keep (fun j => j = og) wr w' → Keep (fun j => j = og) wr w' ∧ w'.cell? ⟨x, 1, none⟩ = some (.int .i64 s.keys) ∧ w'.cell? ⟨x, 2, none⟩ = some (.int .i64 s.mode) ∧ w'.cell? ⟨ba, oa' + k * 2, none⟩ = some (.int .i64 a[k].1) ∧ w'.cell? ⟨ba, oa' + k * 2 + 1, none⟩ = some (.string a[k].2) ∧ w'.cell? ⟨bb, ob' + k * 2, none⟩ = some (.int .i64 b[k].1) ∧ w'.cell? ⟨bb, ob' + k * 2 + 1, none⟩ = some (.string b[k].2) ∧ (Instr.lookup 370 (.map (some mb)) (.agg #[.int .i64 s.mode, .bool (decide (k < s.keys))]) false).run Tryz.prog w' = .ok fAdd w' := fun w' h => ⟨h, h.cell hxo p1, h.cell hxo p2, h.cell nba a0, h.cell nba a1, h.cell nbb b0, h.cell nbb b1, hjl _ (hTr.keep h hmo)⟩
        go_wp2_with (fail)
        go_region_held3 (fun w' => Keep (fun j => j = og) wr w' ∧ w'.cell? ⟨x, 1, none⟩ = some (.int .i64 s.keys) ∧ w'.cell? ⟨x, 2, none⟩ = some (.int .i64 s.mode) ∧ w'.cell? ⟨ba, oa' + k * 2, none⟩ = some (.int .i64 a[k].1) ∧ w'.cell? ⟨ba, oa' + k * 2 + 1, none⟩ = some (.string a[k].2) ∧ w'.cell? ⟨bb, ob' + k * 2, none⟩ = some (.int .i64 b[k].1) ∧ w'.cell? ⟨bb, ob' + k * 2 + 1, none⟩ = some (.string b[k].2) ∧ (Instr.lookup 370 (.map (some mb)) (.agg #[.int .i64 s.mode, .bool (decide (k < s.keys))]) false).run Tryz.prog w' = .ok fAdd w') (((try dsimp only); refine keep _ ?_; first | with_reducible assumption | exact (Ext.keep (w := wr) (by (repeat (first | with_reducible refine Ext.drew ?_ | with_reducible refine Ext.drewN ?_ _ | with_reducible refine Ext.alloc ?_ _)); first | with_reducible assumption | with_reducible exact Ext.refl _) _) | exact (hx5.keep _).trans ((keep_set1 _ _ _ _).trans (keep_set1 _ _ _ _)))) (first | (go_at_call 339; refine (hjc' _).mono ?_; rintro e w5 ⟨rfl, hE5⟩; have hx5 : Ext wr w5 := Ext.trans (by (repeat (first | with_reducible refine Ext.drew ?_ | with_reducible refine Ext.drewN ?_ _ | with_reducible refine Ext.alloc ?_ _)); first | with_reducible assumption | with_reducible exact Ext.refl _) hE5; have s0 := hx5.cell o0; have s1 := hx5.cell o1; have sf0 := hx5.froz hogr of0; have sf1 := hx5.froz hogr of1))
        all_goals
          (try simp only [Exit.inBlock, Exit.then])
          go_wp2_with (fail)
          have hO5 := own_val (hO.ext hx5) hlk (joinOf s.mode (decide (k < s.keys)) s.types[k] a[k] b[k])
          rw [← HY.out, ← oneK_succ s a b k hlt] at hO5
          have hK5 := hK.trans ((hx5.keep (fun j => j = og)).trans ((keep_set1 w5 og (k * 2) (.int .i64 (oneAt s a b k).1)).trans (keep_set1 _ og (k * 2 + 1) (.string (oneAt s a b k).2))))
          rw [HY.out] at hO5 hK5
          go_roundw
          case rel => exact ⟨k + 1, by go_num, by omega, hO5, hK5⟩
          case measure => simp [intOf] <;> omega
      · have hfv : joinV s.mode (decide (k < s.keys)) = fLast := by unfold joinV; rw [if_neg hsum]
        rw [hfv] at hjl
        have hjc' := hjc 338 hfv
        have HSUM := As.mk hsum
        clear hjc hsum hfv
        have keep : ∀ w', Keep (fun j => j = og) wr w' → Keep (fun j => j = og) wr w' ∧ w'.cell? ⟨x, 1, none⟩ = some (.int .i64 s.keys) ∧ w'.cell? ⟨x, 2, none⟩ = some (.int .i64 s.mode) ∧ w'.cell? ⟨ba, oa' + k * 2, none⟩ = some (.int .i64 a[k].1) ∧ w'.cell? ⟨ba, oa' + k * 2 + 1, none⟩ = some (.string a[k].2) ∧ w'.cell? ⟨bb, ob' + k * 2, none⟩ = some (.int .i64 b[k].1) ∧ w'.cell? ⟨bb, ob' + k * 2 + 1, none⟩ = some (.string b[k].2) ∧ (Instr.lookup 370 (.map (some mb)) (.agg #[.int .i64 s.mode, .bool (decide (k < s.keys))]) false).run Tryz.prog w' = .ok fLast w' := fun w' h => ⟨h, h.cell hxo p1, h.cell hxo p2, h.cell nba a0, h.cell nba a1, h.cell nbb b0, h.cell nbb b1, hjl _ (hTr.keep h hmo)⟩
        go_wp2_with (fail)
        go_region_held3 (fun w' => Keep (fun j => j = og) wr w' ∧ w'.cell? ⟨x, 1, none⟩ = some (.int .i64 s.keys) ∧ w'.cell? ⟨x, 2, none⟩ = some (.int .i64 s.mode) ∧ w'.cell? ⟨ba, oa' + k * 2, none⟩ = some (.int .i64 a[k].1) ∧ w'.cell? ⟨ba, oa' + k * 2 + 1, none⟩ = some (.string a[k].2) ∧ w'.cell? ⟨bb, ob' + k * 2, none⟩ = some (.int .i64 b[k].1) ∧ w'.cell? ⟨bb, ob' + k * 2 + 1, none⟩ = some (.string b[k].2) ∧ (Instr.lookup 370 (.map (some mb)) (.agg #[.int .i64 s.mode, .bool (decide (k < s.keys))]) false).run Tryz.prog w' = .ok fLast w') (((try dsimp only); refine keep _ ?_; first | with_reducible assumption | exact (Ext.keep (w := wr) (by (repeat (first | with_reducible refine Ext.drew ?_ | with_reducible refine Ext.drewN ?_ _ | with_reducible refine Ext.alloc ?_ _)); first | with_reducible assumption | with_reducible exact Ext.refl _) _) | exact (hx5.keep _).trans ((keep_set1 _ _ _ _).trans (keep_set1 _ _ _ _)))) (first | (go_at_call 338; refine (hjc' _).mono ?_; rintro e w5 ⟨rfl, hE5⟩; have hx5 : Ext wr w5 := Ext.trans (by (repeat (first | with_reducible refine Ext.drew ?_ | with_reducible refine Ext.drewN ?_ _ | with_reducible refine Ext.alloc ?_ _)); first | with_reducible assumption | with_reducible exact Ext.refl _) hE5; have s0 := hx5.cell o0; have s1 := hx5.cell o1; have sf0 := hx5.froz hogr of0; have sf1 := hx5.froz hogr of1))
        all_goals
          (try simp only [Exit.inBlock, Exit.then])
          go_wp2_with (fail)
          have hO5 := own_val (hO.ext hx5) hlk (joinOf s.mode (decide (k < s.keys)) s.types[k] a[k] b[k])
          rw [← HY.out, ← oneK_succ s a b k hlt] at hO5
          have hK5 := hK.trans ((hx5.keep (fun j => j = og)).trans ((keep_set1 w5 og (k * 2) (.int .i64 (oneAt s a b k).1)).trans (keep_set1 _ og (k * 2 + 1) (.string (oneAt s a b k).2))))
          rw [HY.out] at hO5 hK5
          go_roundw
          case rel => exact ⟨k + 1, by go_num, by omega, hO5, hK5⟩
          case measure => simp [intOf] <;> omega
    · obtain rfl : k = s.types.length := by omega
      obtain ⟨A', c', he, hs'⟩ := hO.shut (fun j q => by have := hF j q; omega)
      rw [oneK_all] at he hs'
      go_wp2
      go_ret
      exact ⟨A', c', by rw [← he]; rfl, hs', hE03.keepNew hK (fun j q => by omega)⟩
end K67
namespace K68
open Go Go.RowKit Go.Maps
open KB KB2 K1 K2 K3 K5 P2 P3 K65 K67
set_option linter.unusedVariables false
set_option linter.unusedSimpArgs false
set_option maxHeartbeats 2000000
set_option maxRecDepth 100000
theorem addV_ok {t : Int} {x y : Val} (hx : ValOk t x) (hy : ValOk t y) : ValOk t (addV t x y) := by
  unfold addV
  split
  · exact hy
  · rename_i h
    refine ⟨by unfold I64 wrap64; constructor <;> simp only <;> omega, .inl ⟨?_, rfl⟩⟩
    rcases hx.2 with q | q
    · exact q.1
    · exact absurd q.1 h
theorem joinOf_ok {m : Nat} {k : Bool} {t : Int} {x y : Val} (hx : ValOk t x) (hy : ValOk t y) : ValOk t (joinOf m k t x y) := by
  unfold joinOf; split
  · exact addV_ok hx hy
  · exact hy
theorem oneS_ok {s : Sch} {a b : Row} (ha : RowOk s a) (hb : RowOk s b) : RowOk s (oneS s a b) := by
  refine ⟨by simp [oneS], fun i h1 h2 => ?_⟩
  have h3 : i < a.length := by rw [ha.len]; exact h1
  have h4 : i < b.length := by rw [hb.len]; exact h1
  simp only [oneS, List.getElem_map, List.getElem_range]
  unfold oneAt
  simp only [List.getD_eq_getElem?_getD, List.getElem?_eq_getElem h1, List.getElem?_eq_getElem h3, List.getElem?_eq_getElem h4, Option.getD_some]
  exact joinOf_ok (ha.val i h1 h3) (hb.val i h1 h4)
/-- Rows folded. -/
def foldS (s : Sch) (l : List Row) : List Row := if s.mode = 1 then l else foldL (cmpS s) (oneS s) l
theorem foldStep_ok {s : Sch} {out : List Row} {r : Row} (ho : ∀ x ∈ out, RowOk s x) (hr : RowOk s r) : ∀ x ∈ foldStep (cmpS s) (oneS s) out r, RowOk s x := by
  rcases snoc_cases out with e | ⟨m, o, e⟩
  · subst e; intro x hx; simp [foldStep_nil] at hx; rw [hx]; exact hr
  · subst e
    rw [foldStep_snoc]
    intro x hx
    have hm : ∀ x ∈ m, RowOk s x := fun x hx => ho x (by simp [hx])
    have hoo := ho o (by simp)
    split at hx
    · rcases List.mem_append.1 hx with q | q
      · exact hm x q
      · simp at q; rw [q]; exact oneS_ok hoo hr
    · rcases List.mem_append.1 hx with q | q
      · exact ho x q
      · simp at q; rw [q]; exact hr
theorem foldStep_len (c : Row → Row → Int) (one : Row → Row → Row) (out : List Row) (r : Row) : (foldStep c one out r).length ≤ out.length + 1 := by
  rcases snoc_cases out with e | ⟨m, o, e⟩
  · subst e; simp [foldStep_nil]
  · subst e
    rw [foldStep_snoc]
    split <;> simp
theorem foldFC (F : Nat → Prop) (Ax : Option Addr) (cx : Nat) (s : Sch) (hs : s.Ok) (hm : s.mode ≠ 1) (A : Option Addr) (c : Nat) (l : List Row) (w : World) (hA : SchAt F w Ax cx s) (hl : rdRow.Sl F w A c l) (hn : l.length ≤ 100000) (ho : ∀ r ∈ l, RowOk s r) (hF : ∀ k, F k → k < w.heap.size) :
    Calls Tryz.prog 116 #[schV Ax cx s, .slice A l.length c] w fun e w' => ∃ A' c', e = .returned (.slice A' (foldL (cmpS s) (oneS s) l).length c') ∧ rdRow.Sl F w' A' c' (foldL (cmpS s) (oneS s) l) ∧ Ext w w' := by
  obtain ⟨x, hx⟩ : ∃ x, w.heap.size = x := ⟨_, rfl⟩
  have B1 := blk_new w (.cells #[.slice Ax s.types.length cx, .int .i64 s.keys, .int .i64 s.mode, .int .i64 s.grain] 27)
  have hE1 := (Ext.refl w).alloc (.cells #[.slice Ax s.types.length cx, .int .i64 s.keys, .int .i64 s.mode, .int .i64 s.grain] 27)
  have hsz1 : (w.alloc (.cells #[.slice Ax s.types.length cx, .int .i64 s.keys, .int .i64 s.mode, .int .i64 s.grain] 27)).heap.size = x + 1 := by simp [hx]
  have dm : (((s.mode : Nat) : Int) == 1) = false := by simp; omega
  have dm' : decide (((s.mode : Nat) : Int) = 1) = false := decide_eq_false (by omega)
  go_enter Tryz.func116, Tryz.ntmps116
  go_wp2_with (fail)
  generalize (w.alloc (.cells #[.slice Ax s.types.length cx, .int .i64 s.keys, .int .i64 s.mode, .int .i64 s.grain] 27)) = w1 at *
  rw [hx] at B1
  have hF1 : ∀ k, F k → k < x + 1 := fun k q => by have := hF k q; omega
  have hA1 : SchAt F w1 Ax cx s := Rd.Sl.ext hA hE1
  have hl1 := hl.ext hE1
  clear hA hl
  go_loopw [5, 16] (fun v i wr => ∃ (k : Nat) (out : List Row), i = .int .i64 k ∧ k ≤ l.length ∧ out = foldL (cmpS s) (oneS s) (l.take k) ∧ rdRow.Own F (x + 1) 41 wr v out ∧ (∀ r ∈ out, RowOk s r) ∧ out.length ≤ k ∧ Ext w1 wr) (fun _ i _ => l.length - (intOf i).toNat)
  case atStart => exact ⟨0, [], by go_num, Nat.zero_le _, rfl, Rd.Own.nil _ _ _ _ _, (fun r hr => by cases hr), Nat.le_refl _, Ext.refl _⟩
  case round =>
    obtain ⟨k, out, rfl, hkl, hout, hown, hok, hol, hE⟩ := hrel
    by_cases hlt : k < l.length
    · obtain ⟨b, o, A2, c2, rfl, hc, hcr⟩ := sl_get (far0 rdRow (by decide) hl1 (p := fun _ => True) (fun g hg => ⟨by rw [hsz1]; exact (hown.ge g hg).1, trivial⟩)) hlt
      replace hc := hE.cell hc
      replace hcr := hcr.ext hE
      have hT := take_snoc l hlt
      have hnext : foldL (cmpS s) (oneS s) (l.take (k + 1)) = foldStep (cmpS s) (oneS s) out l[k] := by rw [hT, foldL_snoc, hout]
      have HN := As.mk hnext
      have hrk := ho l[k] (List.getElem_mem hlt)
      have hok' := foldStep_ok hok hrk
      have hlen' := foldStep_len (cmpS s) (oneS s) out l[k]
      have HOK := As.mk hok'
      clear hnext hT hout hok'
      have d1 : (k : Int) < l.length := by omega
      have hBr := hE.blk B1
      rcases snoc_cases out with rfl | ⟨m, o1, rfl⟩
      · rw [foldStep_nil] at HN HOK
        obtain ⟨A9, c9, rfl, hc9, _⟩ := own_len hown
        go_wp2_with (fail)
        go_region
        (try simp only [Exit.inBlock, Exit.then])
        go_wp2_with (first | (at_builtin; refine wpList_pushAt rfl (.tmp 45) (.tmp 47) 42 rfl rdRow elRow rfl (hown.ext ((Ext.refl wr).drew.alloc _)) rfl (heap_alloc_new _ _) (y := l[k]) (sl_Cn (Rd.Sl.ext hcr ((Ext.refl wr).drew.alloc _)) rfl) (by simp) (by unfold maxLen; simp) (by have := hE.size; simp; omega) ?_; intro v' w4 hown4 hg4 hat4))
        go_roundw
        case rel => exact ⟨k + 1, [l[k]], by go_num, by omega, HN.out.symm, hown4, HOK.out, by simp, ((hE.drew).alloc _).grown hg4 (fun j hj => by rw [hsz1]; exact (hown.ge j hj).1)⟩
        case measure => simp [intOf] <;> omega
      · obtain ⟨g, cap, rfl, hg, hgs⟩ := own_some hown (by simp)
        obtain ⟨cs0, ⟨A4, c4, rfl, hs4⟩, hcel, hfro⟩ := hown.cellj (i := m.length) (by simp)
        have o0 := hcel 0 _ rfl
        rw [show m.length * rdRow.sz + 0 = m.length from Nat.mul_one _] at o0
        have of0 := hfro m.length
        simp only [List.getElem_concat_length] at o0 hs4
        have hob := hok o1 (by simp)
        simp only [List.length_append, List.length_cons, List.length_nil, Nat.zero_add] at hol hlen' hs4 hown hcr o0
        have hw1 : IntKind.i64.wrap (((m.length + 1 : Nat) : Int) - 1) = (m.length : Int) := by rw [IntKind.wrap_i64]; omega
        have d2 : decide ((0 : Int) ≤ (m.length : Int)) = true := decide_eq_true (by omega)
        have d3 : (m.length : Int) < ((m.length + 1 : Nat) : Int) := by omega
        have d3' : (m.length : Int) < (m.length : Int) + 1 := by omega
        have d4 : (0 : Int) ≤ (m.length : Int) := by omega
        have hxg : x < wr.heap.size := blk_lt hBr
        have hFv : ∀ j, Fv F (.slice (some ⟨g, 0, none⟩) (m.length + 1) cap) j → j < wr.heap.size := fun j q => by
          rcases q with q | q
          · have := hF1 j q; omega
          · cases q; exact hgs
        have hAv : SchAt (Fv F (.slice (some ⟨g, 0, none⟩) (m.length + 1) cap)) wr Ax cx s := Rd.Sl.ext (far0 (rdInt .i64) (by decide) hA1 (p := fun _ => True) (fun j q => by cases q; exact ⟨by rw [hsz1]; exact hg, trivial⟩)) hE
        (have p0 := blk_cell (hBr) 0; have p1 := blk_cell (hBr) 1; have p2 := blk_cell (hBr) 2; have p3 := blk_cell (hBr) 3)
        have keep : ∀ w', Ext wr w' → Ext wr w' ∧ w'.cell? ⟨x, 0, none⟩ = some (.slice Ax s.types.length cx) ∧ w'.cell? ⟨x, 1, none⟩ = some (.int .i64 s.keys) ∧ w'.cell? ⟨x, 2, none⟩ = some (.int .i64 s.mode) ∧ w'.cell? ⟨x, 3, none⟩ = some (.int .i64 s.grain) ∧ w'.cell? ⟨g, m.length, none⟩ = some (.slice A4 o1.length c4) := fun w' h => ⟨h, h.cell p0, h.cell p1, h.cell p2, h.cell p3, h.cell o0⟩
        have hcc := fun W (hW : Ext wr W) => compareS _ Ax cx s A4 A2 c4 c2 o1 l[k] W (Rd.Sl.ext hAv hW) hs (hs4.ext hW) (hcr.ext hW) hob.key hrk.key
        go_wp2_with (fail)
        go_region_held3 (fun w' => Ext wr w' ∧ w'.cell? ⟨x, 0, none⟩ = some (.slice Ax s.types.length cx) ∧ w'.cell? ⟨x, 1, none⟩ = some (.int .i64 s.keys) ∧ w'.cell? ⟨x, 2, none⟩ = some (.int .i64 s.mode) ∧ w'.cell? ⟨x, 3, none⟩ = some (.int .i64 s.grain) ∧ w'.cell? ⟨g, m.length, none⟩ = some (.slice A4 o1.length c4)) (((try dsimp only); refine keep _ ?_; first | with_reducible assumption | exact (by (repeat (first | with_reducible refine Ext.drew ?_ | with_reducible refine Ext.drewN ?_ _ | with_reducible refine Ext.alloc ?_ _)); first | with_reducible assumption | with_reducible exact Ext.refl _))) (first | (go_at_call 52; refine (hcc _ (by (repeat (first | with_reducible refine Ext.drew ?_ | with_reducible refine Ext.drewN ?_ _ | with_reducible refine Ext.alloc ?_ _)); first | with_reducible assumption | with_reducible exact Ext.refl _)).mono ?_; rintro e w5 ⟨rfl, hE5⟩; have hx5 := Ext.trans (a := wr) (by (repeat (first | with_reducible refine Ext.drew ?_ | with_reducible refine Ext.drewN ?_ _ | with_reducible refine Ext.alloc ?_ _)); first | with_reducible assumption | with_reducible exact Ext.refl _) hE5))
        (try simp only [Exit.inBlock, Exit.then])
        clear hcc keep
        by_cases hz : cmpS s o1 l[k] = 0
        · have d5 : (cmpS s o1 l[k] == 0) = true := by simp [hz]
          rw [foldStep_snoc, if_pos hz] at HN HOK
          have HZ := As.mk hz
          clear hz
          have hBr5 := hx5.blk hBr
          (have r0 := blk_cell (hBr5) 0; have r1 := blk_cell (hBr5) 1; have r2 := blk_cell (hBr5) 2; have r3 := blk_cell (hBr5) 3)
          have o5 := hx5.cell o0
          have of5 := hx5.froz hgs of0
          have hA5 := Rd.Sl.ext hAv hx5
          have hs5 := hs4.ext hx5
          have hc5 := hcr.ext hx5
          have hO5 := hown.ext hx5
          have hg5 : g < w5.heap.size := (hO5.ge g rfl).2
          have hFv5 := FExt hFv hx5
          have hxg5 : ¬ x = g := by omega
          have hone := fun W (hW : Ext w5 W) => oneC _ Ax cx s hs A4 A2 c4 c2 o1 l[k] W (Rd.Sl.ext hA5 hW) (hs5.ext hW) (hc5.ext hW) hob hrk (FExt hFv5 hW)
          clear p0 p1 p2 p3 o0
          go_wp2_with (fail)
          go_region_law (first | (go_simp; go_at_call 216; refine (hone _ (by (repeat (first | with_reducible refine Ext.drew ?_ | with_reducible refine Ext.drewN ?_ _ | with_reducible refine Ext.alloc ?_ _)); first | with_reducible assumption | with_reducible exact Ext.refl _)).mono ?_; rintro e w6 ⟨A6, c6, rfl, hs6, hE6⟩; have hx6 := Ext.trans (a := w5) (by (repeat (first | with_reducible refine Ext.drew ?_ | with_reducible refine Ext.drewN ?_ _ | with_reducible refine Ext.alloc ?_ _)); first | with_reducible assumption | with_reducible exact Ext.refl _) hE6; have s0 := hx6.cell o5; have sf0 := hx6.froz hg5 of5; dsimp only))
          all_goals
            (try simp only [Exit.inBlock, Exit.then])
            go_wp2_with (fail)
            have hO6 := Rd.Own.set1 rfl (hO5.ext hx6) (i := m.length) (by simp) (u := .slice A6 (oneS s o1 l[k]).length c6) (y := oneS s o1 l[k]) (sl_Cn hs6 rfl)
            rw [show (m ++ [o1]).set m.length (oneS s o1 l[k]) = m ++ [oneS s o1 l[k]] from by simp] at hO6
            go_roundw
            case rel => exact ⟨k + 1, m ++ [oneS s o1 l[k]], by go_num, by omega, HN.out.symm, hO6, HOK.out, by simp; omega, ((hE.trans hx5).trans hx6).keepNew (keep_set1 w6 g m.length _) (fun j q => by rw [hsz1, q]; exact hg)⟩
            case measure => simp [intOf] <;> omega
        · have d5 : (cmpS s o1 l[k] == 0) = false := by simp [hz]
          rw [foldStep_snoc, if_neg hz] at HN HOK
          have HZ := As.mk hz
          clear hz
          go_wp2_with (first | (at_builtin; refine wpList_pushAt rfl (.tmp 45) (.tmp 47) 42 rfl rdRow elRow rfl (hown.ext (hx5.alloc _)) rfl (heap_alloc_new _ _) (y := l[k]) (sl_Cn (Rd.Sl.ext hcr (hx5.alloc _)) rfl) (by simp; omega) (by unfold maxLen; simp; omega) (by have := hE.size; have := hx5.size; simp; omega) ?_; intro v' w6 hown6 hg6 hat6))
          go_roundw
          case rel => exact ⟨k + 1, m ++ [o1] ++ [l[k]], by go_num, by omega, HN.out.symm, hown6, HOK.out, by simp; omega, ((hE.trans hx5).alloc _).grown hg6 (fun j hj => by cases hj; rw [hsz1]; exact hg)⟩
          case measure => simp [intOf] <;> omega
    · obtain rfl : k = l.length := by omega
      rw [List.take_length] at hout
      obtain ⟨A', c', rfl, hs'⟩ := hown.shut hF1
      go_wp2
      go_ret
      rw [← hout]
      exact ⟨A', c', rfl, hs', hE1.trans hE⟩
theorem foldL_len (s : Sch) (l : List Row) : (foldL (cmpS s) (oneS s) l).length ≤ l.length := by
  refine snoc_ind (P := fun l => (foldL (cmpS s) (oneS s) l).length ≤ l.length) (Nat.le_refl _) (fun l x ih => ?_) l
  rw [foldL_snoc]
  have := foldStep_len (cmpS s) (oneS s) (foldL (cmpS s) (oneS s) l) x
  simp; omega
theorem foldL_rows {s : Sch} (l : List Row) (h : ∀ r ∈ l, RowOk s r) : ∀ r ∈ foldL (cmpS s) (oneS s) l, RowOk s r := by
  revert h
  refine snoc_ind (P := fun l => (∀ r ∈ l, RowOk s r) → ∀ r ∈ foldL (cmpS s) (oneS s) l, RowOk s r) (fun _ r hr => by cases hr) (fun l x ih h => ?_) l
  rw [foldL_snoc]
  exact foldStep_ok (ih (fun r hr => h r (List.mem_append_left _ hr))) (h x (by simp))
theorem foldedC (F : Nat → Prop) (Ax : Option Addr) (cx : Nat) (s : Sch) (hs : s.Ok) (hm : s.mode ≠ 1) (A : Option Addr) (c : Nat) (ls : List (List Row)) (w : World) (hA : SchAt F w Ax cx s) (hl : rdRows.Sl F w A c ls) (hn : ls.length ≤ 1000) (hN : ls.flatten.length ≤ 100000) (ho : ∀ x ∈ ls, ∀ r ∈ x, RowOk s r)
    (hmr : ∀ r ∈ mergeR (cmpS s) ls, RowOk s r) (hml : (mergeR (cmpS s) ls).length ≤ 100000) (hF : ∀ k, F k → k < w.heap.size) :
    Calls Tryz.prog 80 #[schV Ax cx s, .slice A ls.length c] w fun e w' => ∃ A' c', e = .returned (.slice A' (foldL (cmpS s) (oneS s) (mergeR (cmpS s) ls)).length c') ∧ rdRow.Sl F w' A' c' (foldL (cmpS s) (oneS s) (mergeR (cmpS s) ls)) ∧ Ext w w' := by
  obtain ⟨x, hx⟩ : ∃ x, w.heap.size = x := ⟨_, rfl⟩
  have B1 := blk_new w (.cells #[.slice Ax s.types.length cx, .int .i64 s.keys, .int .i64 s.mode, .int .i64 s.grain] 27)
  have hE1 := (Ext.refl w).alloc (.cells #[.slice Ax s.types.length cx, .int .i64 s.keys, .int .i64 s.mode, .int .i64 s.grain] 27)
  go_enter Tryz.func80, Tryz.ntmps80
  go_wp2_with (fail)
  generalize (w.alloc (.cells #[.slice Ax s.types.length cx, .int .i64 s.keys, .int .i64 s.mode, .int .i64 s.grain] 27)) = w1 at *
  rw [hx] at B1
  have hF1 := FExt hF hE1
  have hA1 : SchAt F w1 Ax cx s := Rd.Sl.ext hA hE1
  have hl1 := hl.ext hE1
  (have p0 := blk_cell (B1) 0; have p1 := blk_cell (B1) 1; have p2 := blk_cell (B1) 2; have p3 := blk_cell (B1) 3)
  have keep : ∀ w', Ext w1 w' → Ext w1 w' ∧ w'.cell? ⟨x, 0, none⟩ = some (.slice Ax s.types.length cx) ∧ w'.cell? ⟨x, 1, none⟩ = some (.int .i64 s.keys) ∧ w'.cell? ⟨x, 2, none⟩ = some (.int .i64 s.mode) ∧ w'.cell? ⟨x, 3, none⟩ = some (.int .i64 s.grain) := fun w' h => ⟨h, h.cell p0, h.cell p1, h.cell p2, h.cell p3⟩
  have hr1 := fun W (hW : Ext w1 W) => rowsC F Ax cx s hs A c ls W (Rd.Sl.ext hA1 hW) (hl1.ext hW) hn hN ho (FExt hF1 hW)
  have hr2 := fun W (hW : Ext w1 W) A2 c2 (hs2 : rdRow.Sl F W A2 c2 (mergeR (cmpS s) ls)) => foldFC F Ax cx s hs hm A2 c2 _ W (Rd.Sl.ext hA1 hW) hs2 hml hmr (FExt hF1 hW)
  go_region_held3 (fun w' => Ext w1 w' ∧ w'.cell? ⟨x, 0, none⟩ = some (.slice Ax s.types.length cx) ∧ w'.cell? ⟨x, 1, none⟩ = some (.int .i64 s.keys) ∧ w'.cell? ⟨x, 2, none⟩ = some (.int .i64 s.mode) ∧ w'.cell? ⟨x, 3, none⟩ = some (.int .i64 s.grain)) (((try dsimp only); refine keep _ ?_; first | with_reducible assumption | exact (by (repeat (first | with_reducible refine Ext.drew ?_ | with_reducible refine Ext.drewN ?_ _ | with_reducible refine Ext.alloc ?_ _)); first | with_reducible assumption | with_reducible exact Ext.refl _))) (first | (go_at_call 115; refine (hr1 _ (by (repeat (first | with_reducible refine Ext.drew ?_ | with_reducible refine Ext.drewN ?_ _ | with_reducible refine Ext.alloc ?_ _)); first | with_reducible assumption | with_reducible exact Ext.refl _)).mono ?_; rintro e w2 ⟨A2, c2, rfl, hs2, hE2⟩; have hx2 := Ext.trans (a := w1) (by (repeat (first | with_reducible refine Ext.drew ?_ | with_reducible refine Ext.drewN ?_ _ | with_reducible refine Ext.alloc ?_ _)); first | with_reducible assumption | with_reducible exact Ext.refl _) hE2) | (go_at_call 116; refine (hr2 _ (by (repeat (first | with_reducible refine Ext.drew ?_ | with_reducible refine Ext.drewN ?_ _ | with_reducible refine Ext.alloc ?_ _)); first | with_reducible assumption | with_reducible exact Ext.refl _) A2 c2 (hs2.ext (by (repeat (first | with_reducible refine Ext.drew ?_ | with_reducible refine Ext.drewN ?_ _ | with_reducible refine Ext.alloc ?_ _)); first | with_reducible assumption | with_reducible exact Ext.refl _))).mono ?_; rintro e w3 ⟨A3, c3, rfl, hs3, hE3⟩; have hx3 := Ext.trans (a := w1) (by (repeat (first | with_reducible refine Ext.drew ?_ | with_reducible refine Ext.drewN ?_ _ | with_reducible refine Ext.alloc ?_ _)); first | with_reducible assumption | with_reducible exact Ext.refl _) hE3))
  (try simp only [Exit.inBlock, Exit.then])
  go_wp2
  go_ret
  exact ⟨A3, c3, rfl, hs3, hE1.trans hx3⟩
end K68
end Go.Proofs.YtbjeejimedhniaaGreatDoor
