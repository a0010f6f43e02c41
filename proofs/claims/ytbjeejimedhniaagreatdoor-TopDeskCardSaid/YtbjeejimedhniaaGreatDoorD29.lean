/- Contracts of the program's functions, as the walks of the law use them. -/
import Derived.Test.YtbjeejimedhniaaGreatDoorD28
import Derived.Test.YtbjeejimedhniaaGreatDoorD25
import Derived.Test.YtbjeejimedhniaaGreatDoorD27
import Derived.BigQuiet
import Derived.StillTailTactics
set_option linter.unusedVariables false
set_option linter.unusedSimpArgs false
set_option maxRecDepth 100000
set_option maxHeartbeats 4000000
namespace Go.Proofs.YtbjeejimedhniaaGreatDoor
namespace P13
open Go
open KB K2 K89 K99 K101 P12
def spc : List (List UInt8) → List UInt8
 | [] => []
 | [x] => x
 | x :: y :: r => x ++ 32 :: spc (y :: r)
def Good (x : List UInt8) : Prop := x ≠ [] ∧ ∀ b ∈ x, b ≠ 32
theorem hd_one {x : List UInt8} (h : ∀ b ∈ x, b ≠ 32) : hd x = x := by
 unfold hd
 have := List.takeWhile_append_of_pos (p := fun b : UInt8 => !(b == 32)) (l₁ := x) (l₂ := []) (fun b hb => by simpa using h b hb)
 simpa using this
theorem hd_two {x : List UInt8} (r : List UInt8) (h : ∀ b ∈ x, b ≠ 32) : hd (x ++ 32 :: r) = x := by
 unfold hd
 rw [List.takeWhile_append_of_pos (fun b hb => by simpa using h b hb)]
 simp
theorem tl_one {x : List UInt8} (h : ∀ b ∈ x, b ≠ 32) : tl x = [] := by
 unfold tl
 have := List.dropWhile_append_of_pos (p := fun b : UInt8 => !(b == 32)) (l₁ := x) (l₂ := []) (fun b hb => by simpa using h b hb)
 simp only [List.append_nil] at this
 rw [this]; simp
theorem tl_two {x : List UInt8} (r : List UInt8) (h : ∀ b ∈ x, b ≠ 32) : tl (x ++ 32 :: r) = r := by
 unfold tl
 rw [List.dropWhile_append_of_pos (fun b hb => by simpa using h b hb)]
 simp
theorem trim_good {x : List UInt8} (h : Good x) (r : List UInt8) : trim (x ++ r) = x ++ r := by
 obtain ⟨h1, h2⟩ := h
 cases x with
 | nil => exact absurd rfl h1
 | cons a t =>
   have := h2 a List.mem_cons_self
   simp [trim, this]
theorem trim_spc : ∀ (ws : List (List UInt8)), (∀ x ∈ ws, Good x) → trim (spc ws) = spc ws
 | [], _ => rfl
 | [x], h => by have := trim_good (h x List.mem_cons_self) []; simpa [spc] using this
 | x :: y :: r, h => trim_good (h x List.mem_cons_self) _
theorem wdsT_nil (f : Nat) : wdsT f [] = [] := by cases f <;> simp [wdsT]
theorem wdsT_ne (g : Nat) {t : List UInt8} (h : t ≠ []) : wdsT (g + 1) t = hd t :: wdsT g (trim (tl t)) := by
 show (if t = [] then [] else hd t :: wdsT g (trim (tl t))) = _
 exact if_neg h
theorem wdsT_spc : ∀ (ws : List (List UInt8)) (f : Nat), (∀ x ∈ ws, Good x) → (spc ws).length ≤ f → wdsT f (spc ws) = ws
 | [], f, _, _ => wdsT_nil f
 | [x], f, h, hf => by
   have hx := h x List.mem_cons_self
   have hl : 0 < x.length := List.length_pos_iff.2 hx.1
   obtain ⟨g, rfl⟩ : ∃ g, f = g + 1 := ⟨f - 1, by simp only [spc] at hf; omega⟩
   simp only [spc]
   rw [wdsT_ne g hx.1, hd_one hx.2, tl_one hx.2]
   show x :: wdsT g [] = _
   rw [wdsT_nil]
 | x :: y :: r, f, h, hf => by
   have hx := h x List.mem_cons_self
   have hr : ∀ z ∈ y :: r, Good z := fun z hz => h z (List.mem_cons_of_mem _ hz)
   simp only [spc, List.length_append, List.length_cons] at hf
   obtain ⟨g, rfl⟩ : ∃ g, f = g + 1 := ⟨f - 1, by omega⟩
   have hne : x ++ 32 :: spc (y :: r) ≠ [] := by simp
   simp only [spc]
   rw [wdsT_ne g hne, hd_two _ hx.2, tl_two _ hx.2, trim_spc _ hr, wdsT_spc (y :: r) g hr (by omega)]
theorem wds_spc (ws : List (List UInt8)) (h : ∀ x ∈ ws, Good x) : wds (spc ws) = ws := by
 unfold wds
 rw [trim_spc ws h]
 exact wdsT_spc ws _ h (Nat.le_refl _)
theorem toldL_cons (x : List UInt8) (r : List (List UInt8)) : toldL (x :: r) = x ++ 10 :: toldL r := by simp [toldL]
theorem toldL_app (a b : List (List UInt8)) : toldL (a ++ b) = toldL a ++ toldL b := by simp [toldL]
theorem split_told : ∀ (L : List (List UInt8)) (f : Nat), (∀ x ∈ L, ∀ b ∈ x, b ≠ 10) → (toldL L).length ≤ f → splitF f (toldL L) = L ++ [[]]
 | [], f, _, _ => by
   have : toldL [] = [] := rfl
   rw [this]
   exact split_none f [] rfl
 | x :: r, f, h, hf => by
   have hx := h x List.mem_cons_self
   have h1 : ∀ b ∈ x, (!(b == 10)) = true := fun b hb => by simpa using hx b hb
   rw [toldL_cons] at hf ⊢
   simp only [List.length_append, List.length_cons] at hf
   obtain ⟨g, rfl⟩ : ∃ g, f = g + 1 := ⟨f - 1, by omega⟩
   have e1 : (x ++ 10 :: toldL r).dropWhile (fun b => !(b == 10)) = 10 :: toldL r := by
     rw [List.dropWhile_append_of_pos h1]; simp
   have e2 : (x ++ 10 :: toldL r).takeWhile (fun b => !(b == 10)) = x := by
     rw [List.takeWhile_append_of_pos h1]; simp
   rw [splitF, e1, e2, if_neg (by simp)]
   show x :: splitF g (toldL r) = _
   rw [split_told r g (fun z hz => h z (List.mem_cons_of_mem _ hz)) (by omega)]
   rfl
theorem lines_told (L : List (List UInt8)) (h : ∀ x ∈ L, ∀ b ∈ x, b ≠ 10) : linesL (toldL L) = L ++ [[]] := split_told L _ h (Nat.le_refl _)
theorem join_told : ∀ (x : List UInt8) (r : List (List UInt8)), Lib.join (x :: r) [10] ++ [10] = toldL (x :: r)
 | x, [] => by simp [Lib.join, toldL]
 | x, y :: r => by
   rw [toldL_cons, ← join_told y r]
   simp [Lib.join]
inductive Ln where
 | table | ins (a b : Int) | crash (c : Nat) | get | getA
def lnW : Ln → List (List UInt8)
 | .table => [[116, 97, 98, 108, 101], [115, 117, 109, 109, 105, 110, 103], [49], [50], [105, 110, 116], [117, 105, 110, 116]]
 | .ins a b => [[105, 110, 115, 101, 114, 116], txt 1 a, txt 2 b]
 | .crash c => [[99, 114, 97, 115, 104], Lib.itoa c, [53]]
 | .get => [[103, 101, 116], [102, 105, 110, 97, 108]]
 | .getA => [[103, 101, 116], [102, 105, 110, 97, 108], [99, 111, 117, 110, 116], [115, 117, 109], [49]]
def Wd (x : List UInt8) : Prop := x ≠ [] ∧ ∀ b ∈ x, b ≠ 32 ∧ b ≠ 10 ∧ b ≠ 34 ∧ b ≠ 124
theorem num_ne {b : UInt8} (h : NumCh b) : b ≠ 32 ∧ b ≠ 10 ∧ b ≠ 34 ∧ b ≠ 124 := by
 refine ⟨fun e => ?_, fun e => ?_, fun e => ?_, fun e => ?_⟩ <;> subst e <;> rcases h with h | h <;> revert h <;> decide
theorem txt_wd (t n : Int) : Wd (txt t n) := by
 unfold txt
 split
 · exact ⟨itoa_ne n, fun b hb => num_ne (itoa_ch n b hb)⟩
 · exact ⟨dec_ne _, fun b hb => num_ne (.inr (dec_ch _ b hb))⟩
theorem lit_wd {x : List UInt8} (h : (x ≠ [] ∧ x.all (fun b => b != 32 && b != 10 && b != 34 && b != 124) = true)) : Wd x := ⟨h.1, fun b hb => by
 have := List.all_eq_true.1 h.2 b hb
 simp only [Bool.and_eq_true, bne_iff_ne] at this
 exact ⟨this.1.1.1, this.1.1.2, this.1.2, this.2⟩⟩
theorem lnW_wd (o : Ln) : ∀ x ∈ lnW o, Wd x := by
 intro x hx
 cases o <;> simp only [lnW, List.mem_cons, List.not_mem_nil, or_false] at hx
 · rcases hx with rfl | rfl | rfl | rfl | rfl | rfl <;> exact lit_wd (by decide)
 · rcases hx with rfl | rfl | rfl
   · exact lit_wd (by decide)
   · exact txt_wd 1 _
   · exact txt_wd 2 _
 · rename_i c
   rcases hx with rfl | rfl | rfl
   · exact lit_wd (by decide)
   · exact ⟨itoa_ne _, fun b hb => num_ne (itoa_ch _ b hb)⟩
   · exact lit_wd (by decide)
 · rcases hx with rfl | rfl <;> exact lit_wd (by decide)
 · rcases hx with rfl | rfl | rfl | rfl | rfl <;> exact lit_wd (by decide)
def lnT (o : Ln) : List UInt8 := spc (lnW o)
theorem spc_ch : ∀ (ws : List (List UInt8)), (∀ x ∈ ws, Wd x) → ∀ b ∈ spc ws, b ≠ 10
 | [], _, b, hb => by cases hb
 | [x], h, b, hb => ((h x List.mem_cons_self).2 b hb).2.1
 | x :: y :: r, h, b, hb => by
   rcases List.mem_append.1 hb with hb | hb
   · exact ((h x List.mem_cons_self).2 b hb).2.1
   · rcases List.mem_cons.1 hb with rfl | hb
     · decide
     · exact spc_ch (y :: r) (fun z hz => h z (List.mem_cons_of_mem _ hz)) b hb
theorem lnT_words (o : Ln) : wds (lnT o) = lnW o := wds_spc _ (fun x hx => ⟨(lnW_wd o x hx).1, fun b hb => ((lnW_wd o x hx).2 b hb).1⟩)
theorem lnT_mark (o : Ln) : NoMark (wds (lnT o)) := by
 rw [lnT_words]
 intro x hx e
 cases x with
 | nil => cases e
 | cons a t =>
   simp only [List.head?_cons, Option.some.injEq] at e
   exact ((lnW_wd o _ hx).2 a List.mem_cons_self).2.2.1 e
theorem lines_src (L : List Ln) : linesL (toldL (L.map lnT)) = L.map lnT ++ [[]] := lines_told _ (fun x hx => by
 obtain ⟨o, _, rfl⟩ := List.mem_map.1 hx
 exact spc_ch _ (lnW_wd o))
abbrev DSt := Nat × List (Int × Int)
def stp (st : DSt) : Ln → DSt
 | .table => (if st.1 = 0 then 1 else 3, st.2)
 | .ins a b => (st.1, st.2 ++ [(a, b)])
 | .crash _ => (2, st.2)
 | .get => st
 | .getA => st
def outOf (g a : List (Int × Int) → List UInt8) (st : DSt) : Ln → List UInt8
 | .table => [111, 107]
 | .ins _ _ => [111, 107]
 | .crash _ => [111, 107]
 | .get => g st.2
 | .getA => a st.2
def runO (g a : List (Int × Int) → List UInt8) : DSt → List Ln → List (List UInt8)
 | _, [] => []
 | st, o :: r => outOf g a st o :: runO g a (stp st o) r
def stT (st : DSt) (L : List Ln) (k : Nat) : DSt := (L.take k).foldl stp st
theorem stT_succ (st : DSt) (L : List Ln) (k : Nat) (h : k < L.length) : stT st L (k + 1) = stp (stT st L k) L[k] := by
 unfold stT
 rw [List.take_add_one, List.getElem?_eq_getElem h, List.foldl_append]
 rfl
theorem runO_len (g a : List (Int × Int) → List UInt8) : ∀ (L : List Ln) (st : DSt), (runO g a st L).length = L.length
 | [], _ => rfl
 | o :: r, st => by simp [runO, runO_len g a r]
theorem runO_get (g a : List (Int × Int) → List UInt8) : ∀ (L : List Ln) (st : DSt) (k : Nat) (h : k < (runO g a st L).length) (h2 : k < L.length), (runO g a st L)[k] = outOf g a (stT st L k) L[k]
 | [], _, k, h, _ => absurd h (Nat.not_lt_zero k)
 | o :: r, st, 0, _, _ => rfl
 | o :: r, st, k + 1, h, h2 => by
   simp only [runO, List.getElem_cons_succ]
   rw [runO_get g a r (stp st o) k (by simpa [runO] using h) (by simpa using h2)]
   rfl
def Legal (st : DSt) : Ln → Prop
 | .table => st.1 = 0 ∧ st.2 = [] ∨ st.1 = 2
 | .ins a b => (st.1 = 1 ∨ st.1 = 3) ∧ I64 a ∧ I64 b ∧ st.2.length < 20
 | .crash c => st.1 = 1 ∧ c ≤ 999999
 | .get => st.1 = 1 ∨ st.1 = 3
 | .getA => st.1 = 1 ∨ st.1 = 3
def AllL : DSt → List Ln → Prop
 | _, [] => True
 | st, o :: r => Legal st o ∧ AllL (stp st o) r
theorem legal_at : ∀ (L : List Ln) (st : DSt), AllL st L → ∀ k (h : k < L.length), Legal (stT st L k) L[k]
 | [], _, _, k, h => absurd h (Nat.not_lt_zero k)
 | o :: r, st, hA, 0, _ => hA.1
 | o :: r, st, hA, k + 1, h => legal_at r (stp st o) hA.2 k (by simpa using h)
theorem AllL_app : ∀ (A B : List Ln) (st : DSt), AllL st A → AllL (A.foldl stp st) B → AllL st (A ++ B)
 | [], _, _, _, h => h
 | o :: r, B, st, h1, h2 => ⟨h1.1, AllL_app r B (stp st o) h1.2 h2⟩
def bod (p c : Nat) : Nat → List (Int × Int) → List Ln
 | _, [] => []
 | j, r :: l => .ins r.1 r.2 :: ((if j = p then [.crash c, .table] else []) ++ bod p c (j + 1) l)
theorem bod_snoc (p c : Nat) (r : Int × Int) : ∀ (l : List (Int × Int)) (j : Nat), bod p c j (l ++ [r]) = bod p c j l ++ (.ins r.1 r.2 :: (if j + l.length = p then [.crash c, .table] else []))
 | [], j => by simp [bod]
 | x :: l, j => by
   simp only [List.cons_append, bod, List.length_cons]
   rw [bod_snoc p c r l (j + 1), show j + 1 + l.length = j + (l.length + 1) by omega]
   simp [List.append_assoc]
theorem bod_all (p c : Nat) (hc : c ≤ 999999) : ∀ (l : List (Int × Int)) (j : Nat) (st : DSt), (∀ x ∈ l, I64 x.1 ∧ I64 x.2) → st.2.length = j → j + l.length ≤ 20 → (st.1 = 1 ∧ j ≤ p ∨ st.1 = 3 ∧ p < j) →
   AllL st (bod p c j l) ∧ ((bod p c j l).foldl stp st).2 = st.2 ++ l ∧ (((bod p c j l).foldl stp st).1 = 1 ∨ ((bod p c j l).foldl stp st).1 = 3)
 | [], j, st, _, _, _, h => ⟨trivial, by simp [bod], h.imp (·.1) (·.1)⟩
 | x :: l, j, st, hx, hl, hn, h => by
   have h1 := hx x List.mem_cons_self
   simp only [List.length_cons] at hn
   have hL : Legal st (.ins x.1 x.2) := ⟨h.imp (·.1) (·.1), h1.1, h1.2, by omega⟩
   have hl2 : (st.2 ++ [(x.1, x.2)]).length = j + 1 := by simp [hl]
   by_cases hp : j = p
   · have hs1 : st.1 = 1 := by rcases h with h | h <;> omega
     obtain ⟨a, b, d⟩ := bod_all p c hc l (j + 1) (3, st.2 ++ [(x.1, x.2)]) (fun z hz => hx z (List.mem_cons_of_mem _ hz)) hl2 (by omega) (.inr ⟨rfl, by omega⟩)
     simp only [bod, if_pos hp]
     refine ⟨⟨hL, ⟨hs1, hc⟩, .inr rfl, a⟩, ?_, ?_⟩
     · show (List.foldl stp (3, st.2 ++ [(x.1, x.2)]) (bod p c (j + 1) l)).2 = _
       rw [b]; simp
     · exact d
   · obtain ⟨a, b, d⟩ := bod_all p c hc l (j + 1) (st.1, st.2 ++ [(x.1, x.2)]) (fun z hz => hx z (List.mem_cons_of_mem _ hz)) hl2 (by omega) (h.elim (fun h => .inl ⟨h.1, by omega⟩) (fun h => .inr ⟨h.1, by omega⟩))
     simp only [bod, if_neg hp, List.nil_append]
     refine ⟨⟨hL, a⟩, ?_, ?_⟩
     · show (List.foldl stp (st.1, st.2 ++ [(x.1, x.2)]) (bod p c (j + 1) l)).2 = _
       rw [b]; simp
     · exact d
def pre (p c : Nat) (l : List (Int × Int)) : List Ln := .table :: bod p c 0 l
theorem pre_snoc (p c : Nat) (l : List (Int × Int)) (r : Int × Int) : pre p c (l ++ [r]) = pre p c l ++ (.ins r.1 r.2 :: (if l.length = p then [.crash c, .table] else [])) := by
 unfold pre
 rw [bod_snoc, Nat.zero_add]; rfl
theorem scr_all (p c : Nat) (hc : c ≤ 999999) (l : List (Int × Int)) (hx : ∀ x ∈ l, I64 x.1 ∧ I64 x.2) (hn : l.length ≤ 20) : AllL (0, []) (pre p c l ++ [.get, .getA]) ∧ ((pre p c l).foldl stp (0, [])).2 = l := by
 obtain ⟨a, b, d⟩ := bod_all p c hc l 0 (1, []) hx rfl (by omega) (.inl ⟨rfl, Nat.zero_le _⟩)
 have e : (pre p c l).foldl stp (0, []) = (bod p c 0 l).foldl stp (1, []) := rfl
 refine ⟨AllL_app _ _ _ ⟨.inl ⟨rfl, rfl⟩, a⟩ ?_, by rw [e, b]; rfl⟩
 rw [e]
 exact ⟨d, d, trivial⟩
def Ok3 : Ln → Prop
 | .get => False
 | .getA => False
 | _ => True
theorem runO_app (g a : List (Int × Int) → List UInt8) : ∀ (A B : List Ln) (st : DSt), runO g a st (A ++ B) = runO g a st A ++ runO g a (A.foldl stp st) B
 | [], _, _ => rfl
 | o :: r, B, st => by simp [runO, runO_app g a r B]
theorem runO_ok (g a : List (Int × Int) → List UInt8) : ∀ (L : List Ln) (st : DSt), (∀ o ∈ L, Ok3 o) → runO g a st L = L.map (fun _ => [111, 107])
 | [], _, _ => rfl
 | o :: r, st, h => by
   have h1 := h o List.mem_cons_self
   simp only [runO, List.map_cons]
   rw [runO_ok g a r _ (fun z hz => h z (List.mem_cons_of_mem _ hz))]
   cases o <;> first | rfl | exact h1.elim
theorem bod_ok (p c : Nat) : ∀ (l : List (Int × Int)) (j : Nat), ∀ o ∈ bod p c j l, Ok3 o
 | [], _, o, h => by cases h
 | x :: l, j, o, h => by
   simp only [bod, List.mem_cons, List.mem_append] at h
   rcases h with rfl | h | h
   · trivial
   · split at h
     · simp only [List.mem_cons, List.not_mem_nil, or_false] at h
       rcases h with rfl | rfl <;> trivial
     · cases h
   · exact bod_ok p c l (j + 1) o h
theorem scr_outs (g a : List (Int × Int) → List UInt8) (p c : Nat) (hc : c ≤ 999999) (l : List (Int × Int)) (hx : ∀ x ∈ l, I64 x.1 ∧ I64 x.2) (hn : l.length ≤ 20) :
   runO g a (0, []) (pre p c l ++ [.get, .getA]) = (pre p c l).map (fun _ => [111, 107]) ++ [g l, a l] := by
 have hb := (scr_all p c hc l hx hn).2
 rw [runO_app, runO_ok]
 · show _ ++ [g _, a _] = _
   have e : (stp ((pre p c l).foldl stp (0, [])) .get).2 = l := hb
   rw [e, hb]
 · intro o h
   rcases List.mem_cons.1 h with rfl | h
   · trivial
   · exact bod_ok p c l 0 o h
theorem bod_len (p c : Nat) : ∀ (l : List (Int × Int)) (j : Nat), (bod p c j l).length ≤ 3 * l.length
 | [], _ => Nat.le_refl _
 | x :: l, j => by
   have := bod_len p c l (j + 1)
   simp only [bod, List.length_cons, List.length_append]
   split <;> simp <;> omega
end P13
namespace K124
open Go Go.RowKit
open K42 K35 KB KB2 P2 K1 K2 K3 K5 P3 P4 P7 K17 K65 K68 K70 K71 K75 K88 K89 K91 K92 K93 K94 K95 K97 K99 K101 K102 K103 K104 K106 K107 P12 P13 K112 K113 K118 K119 K121 K122 K123
abbrev s2 : Sch := ⟨[1, 2], 1, 3, 2⟩
theorem s2ok : s2.Ok := by constructor <;> decide
def psOf (l : List (Int × Int)) : List (List Row) := l.map (fun r => [[V r.1, V r.2]])
theorem psOf_snoc (l : List (Int × Int)) (a b : Int) : psOf (l ++ [(a, b)]) = psOf l ++ [[[V a, V b]]] := by simp [psOf]
theorem psOf_len (l : List (Int × Int)) : (psOf l).length = l.length := by simp [psOf]
theorem psOf_flat (l : List (Int × Int)) : (psOf l).flatten.length = l.length := by
 induction l with
 | nil => rfl
 | cons x l ih => simp only [psOf, List.map_cons, List.flatten_cons, List.length_append, List.length_cons, List.length_nil] at ih ⊢; omega
theorem rowOkS {a b : Int} (ha : I64 a) (hb : I64 b) : RowOk s2 [V a, V b] := by
 refine ⟨rfl, fun i h h' => ?_⟩
 have hi : i < 2 := h'
 match i, hi with
 | 0, _ => exact ⟨ha, .inl ⟨.inl rfl, rfl⟩⟩
 | 1, _ => exact ⟨hb, .inl ⟨.inr rfl, rfl⟩⟩
theorem row_cases2 {r : Row} (h : RowOk s2 r) : ∃ a b : Int, I64 a ∧ I64 b ∧ r = [V a, V b] := by
 obtain ⟨hl, hv⟩ := h
 match r, hl with
 | [x, y], _ =>
   have h0 := hv 0 (by decide) (by simp)
   have h1 := hv 1 (by decide) (by simp)
   obtain ⟨a, sa⟩ := x
   obtain ⟨b, sb⟩ := y
   have e0 : sa = emp := by
     rcases h0.2 with ⟨_, e⟩ | ⟨e, _⟩
     · exact e
     · exact absurd e (by decide)
   have e1 : sb = emp := by
     rcases h1.2 with ⟨_, e⟩ | ⟨e, _⟩
     · exact e
     · exact absurd e (by decide)
   subst e0 e1
   exact ⟨a, b, h0.1, h1.1, rfl⟩
theorem partOkS {a b : Int} (ha : I64 a) (hb : I64 b) : PartOk s2 [[V a, V b]] ∧ (partB s2 [[V a, V b]]).length ≤ 4000 := by
 have hp := partB_length s2 s2ok [[V a, V b]] (by show 1 ≤ 2000; omega)
 have ht2 : s2.types.length = 2 := rfl
 rw [ht2] at hp
 have hr : ∀ r ∈ [[V a, V b]], RowOk s2 r := fun r hr => by rw [List.mem_singleton.1 hr]; exact rowOkS ha hb
 have h1 : ([[V a, V b]] : List Row).length = 1 := rfl
 rw [h1] at hp
 exact ⟨⟨s2ok, fun t h => by simp at h; exact h, Nat.le_refl 1, (by show 1 ≤ 2000; omega), hr, (inOrder_srt hr).2 (by unfold Srt; simp), by omega⟩, by omega⟩
def Good2 (l : List (Int × Int)) : Prop := (∀ x ∈ l, I64 x.1 ∧ I64 x.2) ∧ l.length ≤ 20
theorem ps_ok {l : List (Int × Int)} (h : Good2 l) : ∀ x ∈ psOf l, PartOk s2 x := fun x hx => by
 obtain ⟨r, hr, rfl⟩ := List.mem_map.1 hx
 exact (partOkS (h.1 r hr).1 (h.1 r hr).2).1
theorem ps_srt {l : List (Int × Int)} (h : Good2 l) : ∀ x ∈ psOf l, Srt (cmpS s2) x ∧ ∀ r ∈ x, RowOk s2 r := fun x hx => by
 have := ps_ok h x hx
 exact ⟨(inOrder_srt this.rows).1 this.ord, this.rows⟩
def rowsT (l : List (Int × Int)) : List Row := told s2 true (psOf l)
theorem rowsT_ok {l : List (Int × Int)} (h : Good2 l) : (∀ r ∈ rowsT l, RowOk s2 r) ∧ (rowsT l).length ≤ 20 := by
 obtain ⟨m1, m2, m3⟩ := mergeR_ok (cmpS_ord s2) (psOf l) (ps_srt h)
 have hmr : ∀ r ∈ mergeR (cmpS s2) (psOf l), RowOk s2 r := fun r hr => by
   obtain ⟨y, hy, hr⟩ := List.mem_flatten.1 (m1.mem_iff.1 hr)
   exact ((ps_srt h) y hy).2 r hr
 refine ⟨foldS_rows _ hmr, ?_⟩
 have h1 := foldS_len s2 (mergeR (cmpS s2) (psOf l))
 have h2 := m1.length_eq
 rw [psOf_flat] at h2
 have h3 := h.2
 show (foldS s2 (mergeR (cmpS s2) (psOf l))).length ≤ 20
 omega
def rowSS (r : Row) : List ByteArray := [BA (txt 1 (r.getD 0 (0, emp)).1), BA (txt 2 (r.getD 1 (0, emp)).1)]
def gL (l : List (Int × Int)) : List UInt8 := joinL (tells (rowsT l) ((rowsT l).map rowSS)) ⟨#[10]⟩
def aL (l : List (Int × Int)) : List UInt8 := joinL [BA (txt 1 (accR f1 (rowsT l))), BA (txt 2 (accR f2 (rowsT l)))] ⟨#[32]⟩
theorem join_len (sep : List UInt8) (B : Nat) : ∀ l : List (List UInt8), (∀ x ∈ l, x.length ≤ B) → (Lib.join l sep).length ≤ l.length * (B + sep.length)
 | [], _ => by simp [Lib.join]
 | [x], h => by have := h x List.mem_cons_self; simp [Lib.join]; omega
 | x :: y :: r, h => by
   have h1 := h x List.mem_cons_self
   have ih := join_len sep B (y :: r) (fun z hz => h z (List.mem_cons_of_mem _ hz))
   have e : Lib.join (x :: y :: r) sep = x ++ (sep ++ Lib.join (y :: r) sep) := by simp [Lib.join]
   rw [e, List.length_append, List.length_append, List.length_cons, Nat.succ_mul]
   omega
theorem txt_len (t n : Int) (h : I64 n) : (txt t n).length ≤ 21 := by
 unfold I64 at h
 unfold txt; split
 · exact itoa_len (by omega) (by omega)
 · have := dec_len (u := (IntKind.u64.wrap n).toNat) (by rw [IntKind.wrap_u64]; omega)
   omega
theorem accR_i64 (f : Row → Int) (l : List Row) : I64 (accR f l) := by
 induction l using snoc_ind with
 | h0 => show I64 0; unfold I64; omega
 | hs l x _ => rw [accR_snoc]; unfold I64 wrap64; omega
theorem saysR2' (w : World) (a b : Int) (sa sb : ByteArray) (ha : Says w 1 sa a) (hb : Says w 2 sb b) : SaysR w [1, 2] [V a, V b] [sa, sb] := by
 refine ⟨rfl, rfl, fun k h h1 h2 => ?_⟩
 have hk : k < 2 := h
 match k, hk with
 | 0, _ => exact ⟨rfl, ha⟩
 | 1, _ => exact ⟨rfl, hb⟩
theorem txt_bar (t n : Int) : BA (txt t n) ≠ bar := fun e => by
 have h1 := txt_wd t n
 have h2 : txt t n = [124] := by
   have := congrArg (fun s : ByteArray => s.data.toList) e
   simpa using this
 rw [h2] at h1
 exact (h1.2 124 List.mem_cons_self).2.2.2 rfl
theorem one_says (W : World) : Says W 1 oneB (1 : Nat) := says_small 1 (by decide) W
def Stt (y : Nat) (st : DSt) (O T : Nat → Prop) (W : World) : Prop :=
 st.1 = 0 ∧ StDisk y D00 O T W ∨ st.1 = 1 ∧ GT s2 y st.2.length (psOf st.2) (st.2.length + 1) O T W ∨ st.1 = 2 ∧ GD s2 y st.2.length (psOf st.2) (st.2.length + 1) O T W ∨ st.1 = 3 ∧ GX s2 y st.2.length (psOf st.2) (st.2.length + 2) O T W
theorem stt_keep {y : Nat} {st : DSt} {O T : Nat → Prop} {W W' : World} (h : Stt y st O T W) (K : Keep O W W') : Stt y st O T W' := by
 rcases h with ⟨e, h⟩ | ⟨e, h⟩ | ⟨e, D, a, b, h⟩ | ⟨e, h⟩
 · exact .inl ⟨e, stDisk_keep h K⟩
 · exact .inr (.inl ⟨e, gt_keep h K⟩)
 · exact .inr (.inr (.inl ⟨e, D, a, b, stDisk_keep h K⟩))
 · exact .inr (.inr (.inr ⟨e, gx_keep h K⟩))
theorem stt_narrow {y : Nat} {st : DSt} {O O' T : Nat → Prop} {W : World} (h : Stt y st O T W) (hO : ∀ q, q < W.heap.size → O' q → O q) : Stt y st O' T W := by
 rcases h with ⟨e, h⟩ | ⟨e, h⟩ | ⟨e, D, a, b, h⟩ | ⟨e, h⟩
 · exact .inl ⟨e, stDisk_narrow h hO⟩
 · exact .inr (.inl ⟨e, gt_narrow h hO⟩)
 · exact .inr (.inr (.inl ⟨e, D, a, b, stDisk_narrow h hO⟩))
 · exact .inr (.inr (.inr ⟨e, gx_narrow h hO⟩))
theorem stt_own {y : Nat} {st : DSt} {O T : Nat → Prop} {W : World} (h : Stt y st O T W) : ∀ q, T q → q < W.heap.size ∧ ¬ O q := by
 rcases h with ⟨e, h⟩ | ⟨e, h⟩ | ⟨e, D, a, b, h⟩ | ⟨e, h⟩
 · exact stDisk_own h
 · exact gt_own h
 · exact stDisk_own h
 · exact gx_own h
theorem ss_len (l : List (Int × Int)) (h : Good2 l) : (gL l).length ≤ 2000 ∧ (aL l).length ≤ 2000 ∧ ∀ r ∈ rowsT l, (joinL (rowSS r) ⟨#[32]⟩).length ≤ 50 := by
 have hr := rowsT_ok h
 have h1 : ∀ r ∈ rowsT l, (joinL (rowSS r) ⟨#[32]⟩).length ≤ 50 := fun r hm => by
   obtain ⟨a, b, ha, hb, rfl⟩ := row_cases2 (hr.1 r hm)
   have ja := txt_len 1 a ha
   have jb := txt_len 2 b hb
   have := join_len [32] 21 [txt 1 a, txt 2 b] (fun x hx => by
     simp only [List.mem_cons, List.not_mem_nil, or_false] at hx
     rcases hx with rfl | rfl <;> assumption)
   have e : joinL (rowSS [V a, V b]) ⟨#[32]⟩ = Lib.join [txt 1 a, txt 2 b] [32] := rfl
   rw [e]
   simp only [List.length_cons, List.length_nil] at this
   omega
 refine ⟨?_, ?_, h1⟩
 · have := join_len [10] 50 ((tells (rowsT l) ((rowsT l).map rowSS)).map (·.data.toList)) (fun x hx => by
     obtain ⟨z, hz, rfl⟩ := List.mem_map.1 hx
     rcases List.mem_cons.1 hz with rfl | hz
     · have := dec_len (u := (rowsT l).length) (by have := hr.2; omega)
       show (Lib.decDigits (rowsT l).length).length ≤ 50
       omega
     · obtain ⟨ss, hs, rfl⟩ := List.mem_map.1 hz
       obtain ⟨r, hm, rfl⟩ := List.mem_map.1 hs
       exact h1 r hm)
   have e : gL l = Lib.join ((tells (rowsT l) ((rowsT l).map rowSS)).map (·.data.toList)) [10] := rfl
   have hl : ((tells (rowsT l) ((rowsT l).map rowSS)).map (·.data.toList)).length ≤ 21 := by
     rw [List.length_map]
     show ((rowsT l).map rowSS |>.map _).length + 1 ≤ 21
     rw [List.length_map, List.length_map]
     have := hr.2
     omega
   rw [e]
   simp only [List.length_cons, List.length_nil] at this
   have h2 := Nat.mul_le_mul_right (50 + (0 + 1)) hl
   omega
 · have := join_len [32] 21 [txt 1 (accR f1 (rowsT l)), txt 2 (accR f2 (rowsT l))] (fun x hx => by
     simp only [List.mem_cons, List.not_mem_nil, or_false] at hx
     rcases hx with rfl | rfl
     · exact txt_len _ _ (accR_i64 _ _)
     · exact txt_len _ _ (accR_i64 _ _))
   have e : aL l = Lib.join [txt 1 (accR f1 (rowsT l)), txt 2 (accR f2 (rowsT l))] [32] := rfl
   rw [e]
   simp only [List.length_cons, List.length_nil] at this
   omega
theorem insHyp {W : World} {a b : Int} (ha : I64 a) (hb : I64 b) (htab : Tab W) : ∀ k (h1 : k < [[V a, V b]].length) (h2 : k < [[BA (txt 1 a), BA (txt 2 b)]].length), SaysR W s2.types [[V a, V b]][k] [[BA (txt 1 a), BA (txt 2 b)]][k] ∧ ∀ x ∈ [[BA (txt 1 a), BA (txt 2 b)]][k], x ≠ bar := by
 intro k h1 h2
 have hk : k < 1 := h1
 match k, hk with
 | 0, _ =>
   refine ⟨saysR2' W a b _ _ (says 1 a (.inl rfl) ha W htab) (says 2 b (.inr rfl) hb W htab), ?_⟩
   show ∀ x ∈ [BA (txt 1 a), BA (txt 2 b)], x ≠ bar
   intro x hx
   simp only [List.mem_cons, List.not_mem_nil, or_false] at hx
   rcases hx with rfl | rfl
   · exact txt_bar _ _
   · exact txt_bar _ _
theorem getHyp {W : World} {l : List (Int × Int)} (h : Good2 l) (htab : Tab W) : ∀ k (h1 : k < (rowsT l).length) (h2 : k < ((rowsT l).map rowSS).length), SaysR W s2.types (rowsT l)[k] ((rowsT l).map rowSS)[k] ∧ (joinL ((rowsT l).map rowSS)[k] ⟨#[32]⟩).length ≤ 1000000000 := by
 intro k h1 h2
 rw [List.getElem_map]
 have hm := List.getElem_mem h1
 have hr := (rowsT_ok h).1 _ hm
 have hl := (ss_len l h).2.2 _ hm
 refine ⟨?_, by omega⟩
 obtain ⟨a, b, ha, hb, e⟩ := row_cases2 hr
 rw [e]
 exact saysR2' W a b _ _ (says 1 a (.inl rfl) ha W htab) (says 2 b (.inr rfl) hb W htab)
theorem lnC (y : Nat) (st : DSt) (o : Ln) (hl : Legal st o) (hg : Good2 st.2) (O T : Nat → Prop) (W : World) (A : Option Addr) (c : Nat) (h : Stt y st O T W) (htab : Tab W) (hO : ∀ q, O q → q < W.heap.size) (hsl : rdStr.Sl (fun q => O q ∨ T q) W A c ((lnW o).map BA)) :
   Calls Tryz.prog 47 #[BX y, .slice A ((lnW o).map BA).length c] W fun e W' => e = .returned (.string (BA (outOf gL aL st o))) ∧ ∃ T', Stt y (stp st o) O T' W' ∧ Keep T W W' ∧ ∀ q, T' q → T q ∨ W.heap.size ≤ q := by
 have hg2 := hg.2
 cases o with
 | table =>
   have e : (lnW .table).map BA = tableB :: modeW s2.mode :: num1 1 :: num1 2 :: s2.types.map typeW := rfl
   rcases h with ⟨e1, h⟩ | ⟨e1, h⟩ | ⟨e1, h⟩ | ⟨e1, h⟩
   · rcases hl with ⟨_, e2⟩ | e2
     · refine (openNew s2 s2ok y O T W h hO (num1 1) (num1 2) (says_small 1 (by decide) W) (says_small 2 (by decide) W) A c hsl).mono ?_
       rintro e w' ⟨rfl, T', hT, hK, hN⟩
       refine ⟨rfl, T', .inr (.inl ⟨by simp [stp, e1], ?_⟩), hK, hN⟩
       show GT s2 y st.2.length (psOf st.2) (st.2.length + 1) O T' w'
       rw [e2]; exact hT
     · rw [e1] at e2; cases e2
   · rcases hl with ⟨e2, _⟩ | e2 <;> rw [e1] at e2 <;> cases e2
   · refine (openOldT s2 s2ok y st.2.length (by omega) (psOf st.2) (psOf_len _) (ps_ok hg) (st.2.length + 1) (by omega) (by omega) O T W h hO (num1 1) (num1 2) (says_small 1 (by decide) W) (says_small 2 (by decide) W) A c hsl).mono ?_
     rintro e w' ⟨rfl, T', hT, hK, hN⟩
     exact ⟨rfl, T', .inr (.inr (.inr ⟨by simp [stp, e1], hT⟩)), hK, hN⟩
   · rcases hl with ⟨e2, _⟩ | e2 <;> rw [e1] at e2 <;> cases e2
 | ins a b =>
   obtain ⟨hp, ha, hb, h20⟩ := hl
   have hpk := partOkS ha hb
   have hso : sortS s2 [[V a, V b]] = [[V a, V b]] := rfl
   have hle : (st.2 ++ [(a, b)]).length = st.2.length + 1 := by simp
   have hsum : sumL (psOf st.2) ≤ 20 := by
     have : sumL (psOf st.2) = (psOf st.2).flatten.length := by simp [sumL, List.length_flatten]
     rw [this, psOf_flat]; omega
   have hRO : ∀ r ∈ [[V a, V b]], RowOk s2 r := hpk.1.rows
   rcases h with ⟨e1, h⟩ | ⟨e1, h⟩ | ⟨e1, h⟩ | ⟨e1, h⟩
   · rcases hp with e2 | e2 <;> rw [e1] at e2 <;> cases e2
   · refine (insGT s2 s2ok y st.2.length (psOf st.2) (st.2.length + 1) (by omega) (by omega) O T W h hO A c [BA (txt 1 a), BA (txt 2 b)] (by simp) hsl [[V a, V b]] [[BA (txt 1 a), BA (txt 2 b)]] rfl rfl (insHyp ha hb htab) (by rw [hso]; exact hpk.1) (by rw [hso]; exact hpk.2) hRO (Nat.le_refl 1) (by show 1 < 20; omega) (by show 1 + _ ≤ _; omega)).mono ?_
     rintro e w' ⟨rfl, T', hT, hK, hN⟩
     refine ⟨rfl, T', .inr (.inl ⟨e1, ?_⟩), hK, hN⟩
     show GT s2 y (st.2 ++ [(a, b)]).length (psOf (st.2 ++ [(a, b)])) ((st.2 ++ [(a, b)]).length + 1) O T' w'
     rw [hle, psOf_snoc]
     rw [hso] at hT
     exact hT
   · rcases hp with e2 | e2 <;> rw [e1] at e2 <;> cases e2
   · refine (insGX s2 s2ok y st.2.length (psOf st.2) (st.2.length + 2) (by omega) (by omega) O T W h hO A c [BA (txt 1 a), BA (txt 2 b)] (by simp) hsl [[V a, V b]] [[BA (txt 1 a), BA (txt 2 b)]] rfl rfl (insHyp ha hb htab) (by rw [hso]; exact hpk.1) (by rw [hso]; exact hpk.2) hRO (Nat.le_refl 1) (by show 1 < 20; omega) (by show 1 + _ ≤ _; omega)).mono ?_
     rintro e w' ⟨rfl, T', hT, hK, hN⟩
     refine ⟨rfl, T', .inr (.inr (.inr ⟨e1, ?_⟩)), hK, hN⟩
     show GX s2 y (st.2 ++ [(a, b)]).length (psOf (st.2 ++ [(a, b)])) ((st.2 ++ [(a, b)]).length + 2) O T' w'
     rw [hle, psOf_snoc]
     rw [hso] at hT
     exact hT
 | crash n =>
   obtain ⟨hp, hn⟩ := hl
   rcases h with ⟨e1, h⟩ | ⟨e1, h⟩ | ⟨e1, h⟩ | ⟨e1, h⟩
   · rw [e1] at hp; cases hp
   · have hI : I64 (n : Int) := by unfold I64; omega
     have hs1 : Says W 1 (BA (Lib.itoa n)) n := says 1 n (.inl rfl) hI W htab
     refine (crashGT s2 y st.2.length (psOf st.2) (st.2.length + 1) O T W h hO A c [BA (Lib.itoa n), BA [53]] (by simp) hsl n hn [5] (fun t ht => by rw [List.mem_singleton.1 ht]; decide) ⟨rfl, fun k h1 h2 => ?_⟩).mono ?_
     · have hk : k < 2 := h1
       match k, hk with
       | 0, _ => exact ⟨hs1, by show (0 : Int) ≤ n; omega, by show (n : Int) ≤ 999999; omega⟩
       | 1, _ => exact ⟨says_small 5 (by decide) W, by show (0 : Int) ≤ 5; omega, by show (5 : Int) ≤ 999999; omega⟩
     · rintro e w' ⟨rfl, T', hT, hK, hN⟩
       exact ⟨rfl, T', .inr (.inr (.inl ⟨rfl, hT⟩)), hK, hN⟩
   · rw [e1] at hp; cases hp
   · rw [e1] at hp; cases hp
 | get =>
   have hr := rowsT_ok hg
   have hss := ss_len st.2 hg
   rcases h with ⟨e1, h⟩ | ⟨e1, h⟩ | ⟨e1, h⟩ | ⟨e1, h⟩
   · rcases hl with e2 | e2 <;> rw [e1] at e2 <;> cases e2
   · obtain ⟨St, hTb, hids, hnx, hps, hSt⟩ := h
     refine (lineGet y St O T W hSt hO (by rw [hTb.sch]; exact s2ok) A c hsl (by rw [hps, psOf_len]; omega) (by rw [hps, psOf_flat]; omega) (by rw [hps, hTb.sch]; exact ps_srt hg) (rowsT st.2) (by rw [hps, hTb.sch]; rfl) (by omega) ((rowsT st.2).map rowSS) (by simp) (by rw [hTb.sch]; exact getHyp hg htab) (Nat.le_trans hss.1 (by decide))).mono ?_
     rintro e w' ⟨rfl, T', hT, hK, hN⟩
     exact ⟨rfl, T', .inr (.inl ⟨e1, St, hTb, hids, hnx, hps, hT⟩), hK, hN⟩
   · rcases hl with e2 | e2 <;> rw [e1] at e2 <;> cases e2
   · obtain ⟨St, lg, hTb, hids, hnx, hps, hSt⟩ := h
     refine (lineGet y St O T W hSt hO (by rw [hTb.sch]; exact s2ok) A c hsl (by rw [hps, psOf_len]; omega) (by rw [hps, psOf_flat]; omega) (by rw [hps, hTb.sch]; exact ps_srt hg) (rowsT st.2) (by rw [hps, hTb.sch]; rfl) (by omega) ((rowsT st.2).map rowSS) (by simp) (by rw [hTb.sch]; exact getHyp hg htab) (Nat.le_trans hss.1 (by decide))).mono ?_
     rintro e w' ⟨rfl, T', hT, hK, hN⟩
     exact ⟨rfl, T', .inr (.inr (.inr ⟨e1, St, lg, hTb, hids, hnx, hps, hT⟩)), hK, hN⟩
 | getA =>
   have hss := ss_len st.2 hg
   have q1 : Says W 1 (BA (txt 1 (accR f1 (rowsT st.2)))) (accR f1 (rowsT st.2)) := says 1 _ (.inl rfl) (accR_i64 _ _) W htab
   have q2 : Says W 2 (BA (txt 2 (accR f2 (rowsT st.2)))) (accR f2 (rowsT st.2)) := says 2 _ (.inr rfl) (accR_i64 _ _) W htab
   rcases h with ⟨e1, h⟩ | ⟨e1, h⟩ | ⟨e1, h⟩ | ⟨e1, h⟩
   · rcases hl with e2 | e2 <;> rw [e1] at e2 <;> cases e2
   · obtain ⟨St, hTb, hids, hnx, hps, hSt⟩ := h
     refine (lineGetA y St O T W hSt hO (by rw [hTb.sch]; exact s2ok) A c hsl (by rw [hps, psOf_len]; omega) (by rw [hps, psOf_flat]; omega) (by rw [hps, hTb.sch]; exact ps_srt hg) (by rw [hTb.sch]) one_says _ _ (by rw [hps, hTb.sch]; rfl) (by rw [hps, hTb.sch]; rfl) _ _ q1 q2 (Nat.le_trans hss.2.1 (by decide))).mono ?_
     rintro e w' ⟨rfl, T', hT, hK, hN⟩
     exact ⟨rfl, T', .inr (.inl ⟨e1, St, hTb, hids, hnx, hps, hT⟩), hK, hN⟩
   · rcases hl with e2 | e2 <;> rw [e1] at e2 <;> cases e2
   · obtain ⟨St, lg, hTb, hids, hnx, hps, hSt⟩ := h
     refine (lineGetA y St O T W hSt hO (by rw [hTb.sch]; exact s2ok) A c hsl (by rw [hps, psOf_len]; omega) (by rw [hps, psOf_flat]; omega) (by rw [hps, hTb.sch]; exact ps_srt hg) (by rw [hTb.sch]) one_says _ _ (by rw [hps, hTb.sch]; rfl) (by rw [hps, hTb.sch]; rfl) _ _ q1 q2 (Nat.le_trans hss.2.1 (by decide))).mono ?_
     rintro e w' ⟨rfl, T', hT, hK, hN⟩
     exact ⟨rfl, T', .inr (.inr (.inr ⟨e1, St, lg, hTb, hids, hnx, hps, hT⟩)), hK, hN⟩
end K124
namespace K125
open Go Go.RowKit
open K42 K35 K38 KB KB2 K1 K2 K3 K75 K88 K89 K99 K101 K103 K106 K107 P12 P13 K112 K113 K124
theorem good_stp {st : DSt} {o : Ln} (hl : Legal st o) (h : Good2 st.2) : Good2 (stp st o).2 := by
 cases o with
 | table => exact h
 | ins a b =>
   refine ⟨fun x hx => ?_, ?_⟩
   · rcases List.mem_append.1 hx with hx | hx
     · exact h.1 x hx
     · rw [List.mem_singleton.1 hx]; exact ⟨hl.2.1, hl.2.2.1⟩
   · show (st.2 ++ [(a, b)]).length ≤ 20
     have := hl.2.2.2
     rw [List.length_append]; simp; omega
 | crash n => exact h
 | get => exact h
 | getA => exact h
theorem good_at (L : List Ln) (hA : AllL (0, []) L) : ∀ k, k ≤ L.length → Good2 (stT (0, []) L k).2
 | 0, _ => ⟨(fun x hx => by cases hx), Nat.zero_le _⟩
 | k + 1, h => by
   rw [stT_succ _ _ _ (by omega)]
   exact good_stp (legal_at L _ hA k (by omega)) (good_at L hA k (by omega))
def SC (y : Nat) (L : List Ln) (k : Nat) (O T : Nat → Prop) (W : World) : Prop :=
 Stt y (stT (0, []) L k) O T W ∧ Tab W ∧ ∀ g, Tryz.prog.globalNamed "internal/strconv.uint64pow10" = some g → ¬ O g ∧ ¬ T g
theorem deskScr (y : Nat) (L : List Ln) (hA : AllL (0, []) L) : Desk y (runO gL aL (0, []) L) (L.map (fun o => (lnW o).map BA)) (SC y L) := by
 refine ⟨?_, ?_, ?_, ?_⟩
 · intro k O T W W' h K
   exact ⟨stt_keep h.1 K, tab_keep h.2.1 K (fun g hg => (h.2.2 g hg).1), h.2.2⟩
 · intro k O O' T W h hO
   exact ⟨stt_narrow h.1 hO, h.2.1, fun g hg => ⟨fun q => (h.2.2 g hg).1 (hO g (tab_lt h.2.1 hg) q), (h.2.2 g hg).2⟩⟩
 · intro k O T W h
   exact stt_own h.1
 · intro k hk hk2 O T W A c h hO hl
   have hkL : k < L.length := by simpa using hk
   have e1 : (L.map (fun o => (lnW o).map BA))[k] = (lnW L[k]).map BA := by simp
   have e2 := runO_get gL aL L (0, []) k hk2 hkL
   rw [e1] at hl ⊢
   rw [e2]
   refine (lnC y _ _ (legal_at L _ hA k hkL) (good_at L hA k (by omega)) O T W A c h.1 h.2.1 hO hl).mono ?_
   rintro e w' ⟨rfl, T', hT, hK, hN⟩
   refine ⟨rfl, T', ⟨?_, tab_keep h.2.1 hK (fun g hg => (h.2.2 g hg).2), fun g hg => ⟨(h.2.2 g hg).1, fun q => ?_⟩⟩, hK, hN⟩
   · rw [stT_succ _ _ _ hkL]; exact hT
   · rcases hN g q with q | q
     · exact (h.2.2 g hg).2 q
     · have := tab_lt h.2.1 hg; omega
theorem told_len (B : Nat) : ∀ L : List (List UInt8), (∀ x ∈ L, x.length ≤ B) → (toldL L).length ≤ L.length * (B + 1)
 | [], _ => Nat.zero_le _
 | x :: r, h => by
   have h1 := h x List.mem_cons_self
   have ih := told_len B r (fun z hz => h z (List.mem_cons_of_mem _ hz))
   rw [toldL_cons, List.length_append, List.length_cons, List.length_cons, Nat.succ_mul]
   omega
theorem runDesk (L : List Ln) (hA : AllL (0, []) L) (hn : L.length ≤ 100) (hB : ∀ o ∈ L, (lnT o).length ≤ 1000) (hout : (toldL (runO gL aL (0, []) L)).length ≤ 1000000000) (w : World) (htab : Tab w) :
   Calls Tryz.prog 20 #[.string (BA (toldL (L.map lnT)))] w fun e w' => e = .returned (.string (BA (toldL (runO gL aL (0, []) L)))) ∧ Ext w w' := by
 have hls := lines_src L
 have hlen : (linesL (toldL (L.map lnT))).length = L.length + 1 := by rw [hls]; simp
 have hwl : (L.map (fun o => (lnW o).map BA)).length = L.length := by simp
 refine run2C _ ?_ _ (L.map (fun o => (lnW o).map BA)) (by rw [runO_len, hwl]) (by rw [hlen, hwl]; omega) (by rw [hwl]; omega) ?_ ?_ hout w ?_
 · have := told_len 1000 (L.map lnT) (fun x hx => by obtain ⟨o, ho, rfl⟩ := List.mem_map.1 hx; exact hB o ho)
   rw [List.length_map] at this
   have h2 := Nat.mul_le_mul_right (1000 + 1) hn
   omega
 · intro k h hk
   rw [hwl] at hk
   obtain rfl : k = L.length := by omega
   have e : (linesL (toldL (L.map lnT)))[L.length] = [] := by
     have : (linesL (toldL (L.map lnT)))[L.length]? = some [] := by rw [hls]; simp
     rw [List.getElem?_eq_getElem h] at this
     exact Option.some.inj this
   rw [e]
   exact ⟨rfl, Nat.zero_le _⟩
 · intro k h h2
   have hkL : k < L.length := by rw [hwl] at h2; exact h2
   have e : (linesL (toldL (L.map lnT)))[k] = lnT L[k] := by
     have : (linesL (toldL (L.map lnT)))[k]? = some (lnT L[k]) := by rw [hls, List.getElem?_append_left (by simpa using hkL)]; simp [hkL]
     rw [List.getElem?_eq_getElem h] at this
     exact Option.some.inj this
   have e1 : (L.map (fun o => (lnW o).map BA))[k] = (lnW L[k]).map BA := by simp
   rw [e, e1, lnT_words]
   have hm := lnT_mark L[k]
   rw [lnT_words] at hm
   have hB2 := hB _ (List.getElem_mem hkL)
   refine ⟨rfl, hm, ?_, ?_, by omega⟩
   · cases L[k] <;> simp [lnW]
   · cases L[k] <;> simp [lnW]
 · intro W db dg mg O hE hD hb h1 h2 h3 h4 h5 h6
   refine ⟨SC db L, fun q => q = db ∨ q = dg ∨ q = mg, deskScr db L hA, ⟨.inl ⟨rfl, dg, mg, _, _, _, _, hD, hb, h4, rfl⟩, tab_ext htab hE, fun g hg => ?_⟩, ?_⟩
   · have hg2 := tab_lt htab hg
     exact ⟨fun q => by have := h6 g q; omega, fun q => by rcases q with q | q | q <;> omega⟩
   · rintro q (rfl | rfl | rfl)
     · exact h1
     · exact h2
     · exact h3
end K125
namespace K109
open Go Go.RowKit
open KB KB2 P2 K1 K2 K3 K17 P5 P6 P8 P9 K25 K35 K38 K42 K54 K55 K56 K57 K58 K31 K65 K70 K71 K72 K75 K77 K81 K87 K88 K89 K91 K92 K93 K94 K95 K97 K5 P4 P10 K79 K106
theorem begunC (F : Nat → Prop) (A : Option Addr) (c : Nat) (s : Sch) (hs : s.Ok) (w : World) (hA : SchAt F w A c s) (hF : ∀ k, F k → k < w.heap.size) :
   Calls Tryz.prog 8 #[schV A c s] w fun e w' => ∃ dg mg tg pv St, e = .returned (.tuple #[BX dg, PX tg]) ∧ StoreAt F w' tg dg mg pv St ∧ Tabl s St (recHead s (idsTo 0) 0) 1 ∧ St.parts = [] ∧ St.next = 0 ∧ (∀ q, SB tg dg mg pv q → w.heap.size ≤ q) ∧ Ext w w' := by
 have hrl := recHead_len s hs (idsTo 0) (by simp [idsTo]) (fun n hn => by simp [idsTo] at hn) 0 (by decide)
 have h0 := holds0 D00 rfl rfl s (recHead s (idsTo 0) 0)
 have hEb := (Ext.refl w).alloc (.cells #[.slice A s.types.length c, .int .i64 s.keys, .int .i64 s.mode, .int .i64 s.grain] 27)
 have hBb := bN w (.cells #[.slice A s.types.length c, .int .i64 s.keys, .int .i64 s.mode, .int .i64 s.grain] 27)
 have HN := As.mk (fun W (hW : Ext w W) => newC F 1048576 (by decide) W (FExt hF hW))
 have HOP := As.mk (fun W (hW : Ext w W) dg mg (hdg : w.heap.size ≤ dg) (hmg : w.heap.size ≤ mg) (hd : DiskAt F W dg mg D00) => openSC F dg mg D00 W hd s hs A c (Rd.Sl.ext (Rd.Sl.narrow (G := DF F dg mg) Nat.one_pos hA (fun k hk e => e.elim id (fun e => e.elim (fun e => by omega) (fun e => by omega)))) hW) 0 (by decide)
   (fun W2 hW2 => (load0C F dg mg D00 W2 (hd.ext hW2) A c s rfl (FExt (FExt hF hW) hW2)).mono (by
     rintro e w' ⟨rfl, hE⟩
     exact ⟨A, c, none, 0, rfl, Rd.Sl.ext (Rd.Sl.ext (Rd.Sl.ext (Rd.Sl.narrow (G := DF F dg mg) Nat.one_pos hA (fun k hk e => e.elim id (fun e => e.elim (fun e => by omega) (fun e => by omega)))) hW) hW2) hE, Rd.Sl.nil0 _ _ _, hE⟩))
   [] rfl (fun k hk => absurd hk (Nat.not_lt_zero _)) (by decide) (by decide) rfl rfl _ rfl (by show 0 + _ ≤ 1048576; omega) (by omega) (fun nm hnm => h0.only nm hnm) (FExt hF hW))
 clear h0 hrl
 go_enter Tryz.func8, Tryz.ntmps8
 go_wp2_with (fail)
 refine (HN.out _ hEb).mono ?_; rintro e w1 ⟨dg, mg, rfl, hdg, hmg, hD1, hE1⟩
 have hE01 := hEb.trans hE1
 have hb1 := hE1.blk hBb
 (have p0 := bC (hb1) 0; have p1 := bC (hb1) 1; have p2 := bC (hb1) 2; have p3 := bC (hb1) 3)
 have hz := hEb.size
 go_wp2_with (fail)
 refine (HOP.out w1 hE01 dg mg (Nat.le_trans hz hdg) (Nat.le_trans hz hmg) hD1).mono ?_; rintro e w2 ⟨tg, pv, rfl, htg, hpv, hS, hK⟩
 go_wp2_with (fail)
 refine bodyPost_ret (v := .tuple #[BX dg, PX tg]) (by simp [results, Tryz.results8, go_sem]) rfl ?_
 have hz1 := hE01.size
 refine ⟨dg, mg, tg, pv, _, rfl, hS, tabl_new s hs 1048576 rfl, rfl, rfl, ?_, hE01.keepNew hK (fun q e => e.elim (fun e => by omega) (fun e => by omega))⟩
 rintro q (e | e | e | e)
 · omega
 · omega
 · omega
 · have := hpv q e; omega
theorem finalC (F : Nat → Prop) (tg dg mg : Nat) (pv : Value) (S : StM) (hs : S.s.Ok) (w : World) (h : StoreAt F w tg dg mg pv S) (hn : S.parts.length ≤ 1000) (hN : S.parts.flatten.length ≤ 100000) (ho : ∀ x ∈ S.parts, Srt (cmpS S.s) x ∧ ∀ r ∈ x, RowOk S.s r) (hF : ∀ k, F k → k < w.heap.size) :
   Calls Tryz.prog 11 #[PX tg] w fun e w' => ∃ (A' : Option Addr) (c' : Nat), e = .returned (.tuple #[.slice A' (told S.s true S.parts).length c', .bool true]) ∧ rdRow.Sl F w' A' c' (told S.s true S.parts) ∧ Ext w w' := by
 have HQ := As.mk (queryC F tg dg mg pv S hs true w h hn hN ho hF)
 clear h
 go_enter Tryz.func11, Tryz.ntmps11
 go_wp2_with (fail)
 refine HQ.out.mono ?_; rintro e w1 ⟨A1, c1, n1, rfl, hs1, hE1⟩
 have hB := bN w1 (.cells #[.slice A1 (told S.s true S.parts).length c1, .slice none 0 0, .int .i64 n1] 67)
 have hEa := (Ext.refl w1).alloc (.cells #[.slice A1 (told S.s true S.parts).length c1, .slice none 0 0, .int .i64 n1] 67)
 (have p0 := bC (hB) 0; have p1 := bC (hB) 1; have p2 := bC (hB) 2)
 go_wp2_with (fail)
 refine bodyPost_ret (v := .tuple #[.slice A1 (told S.s true S.parts).length c1, .bool true]) (by simp [results, Tryz.results11, go_sem]) rfl ?_
 exact ⟨A1, c1, rfl, hs1.ext hEa, hE1.trans hEa⟩
end K109
namespace K126
open Go Go.RowKit
open KB KB2 P2 K1 K2 K3 K17 P5 P6 P8 P9 K25 K35 K38 K42 K54 K55 K56 K57 K58 K31 K65 K70 K71 K72 K73 K75 K77 K81 K87 K88 K89 K91 K92 K93 K94 K95 K97 K5 P3 P4 P7 P10 K104 K105 K106 K107 K109 P12 P13 K124
def G2 (F : Nat → Prop) (tg dg mg : Nat) (l : List (Int × Int)) (pv : Value) (W : World) : Prop :=
 ∃ St lg, StoreAt F W tg dg mg pv St ∧ Tabl s2 St lg (l.length + 1) ∧ St.parts = psOf l
theorem g2_ext {F : Nat → Prop} {tg dg mg : Nat} {l : List (Int × Int)} {pv : Value} {W W' : World} (h : G2 F tg dg mg l pv W) (hE : Ext W W') : G2 F tg dg mg l pv W' := by
 obtain ⟨St, lg, h1, h2⟩ := h
 exact ⟨St, lg, h1.ext hE, h2⟩
theorem g2_lt {F : Nat → Prop} {tg dg mg : Nat} {l : List (Int × Int)} {pv : Value} {W : World} (h : G2 F tg dg mg l pv W) (hF : ∀ k, F k → k < W.heap.size) : ∀ k, Fv (SF F tg dg mg) pv k → k < W.heap.size := by
 obtain ⟨St, lg, h1, _⟩ := h
 exact fun k q => q.elim (SFlt h1 hF k) (fun q => (h1.parts.ge k q).2)
theorem insT2 (F : Nat → Prop) (tg dg mg : Nat) (l : List (Int × Int)) (pv : Value) (W : World) (h : G2 F tg dg mg l pv W) (hl : l.length < 20) (a b : Int) (ha : I64 a) (hb : I64 b) (A : Option Addr) (c : Nat) (hrows : rdRow.Sl (Fv (SF F tg dg mg) pv) W A c [[V a, V b]]) (hF : ∀ k, F k → k < W.heap.size) :
   Calls Tryz.prog 9 #[PX tg, .slice A 1 c] W fun e w' => e = .returned (.int .i64 0) ∧ ∃ pv', G2 F tg dg mg (l ++ [(a, b)]) pv' w' ∧ (∀ k, pv'.ownBlock = some k → pv.ownBlock = some k ∨ W.heap.size ≤ k) ∧ Keep (SB tg dg mg pv) W w' := by
 obtain ⟨St, lg, hSt, hT, hps⟩ := h
 obtain ⟨li, hli, hlf⟩ := hT.holds.log_
 have hsc := hT.sch
 have hus := hT.room.used
 have hq := hT.room.quota
 have hlm := hT.room.lim
 have hnm := hT.room.names
 have hlg := hT.lgl
 have hnk := hT.nk
 have hnl := hT.nl
 have hnot : (St.next : Int) ∉ St.ids := fun e => by have := hT.nx _ e; omega
 have hrl : (recAdd St.next).length = 7 := recAdd_len _ (by omega)
 have hfr := hT.holds.fresh (id := St.next) (by omega) hnot
 have hne := hT.holds.noEmp
 have hso : sortS s2 [[V a, V b]] = [[V a, V b]] := rfl
 have hp := partOkS ha hb
 have hpl : St.parts.length = l.length := by rw [hps, psOf_len]
 have hpf : St.parts.flatten.length = l.length := by rw [hps, psOf_flat]
 have hsl : sumL St.parts = St.parts.flatten.length := by simp [sumL, List.length_flatten]
 have hT2 := tabl_ins s2ok hT (by omega) [[V a, V b]] (by rw [hso]; exact hp.2) li hli (.inr (by omega))
 obtain ⟨ss, ids, next, parts, D⟩ := St
 dsimp only at hsc
 subst hsc
 refine (insertC F tg dg mg pv ⟨s2, ids, next, parts, D⟩ s2ok [[V a, V b]] (by rw [hso]; exact hp.1) hp.1.rows (by simp) (by simp) W hSt (by dsimp only at hnk ⊢; omega) (by dsimp only at hpl ⊢; omega) (by dsimp only at hnl ⊢; omega) (by rw [hsl]; dsimp only at hpf ⊢; simp only [List.length_cons, List.length_nil]; omega) (fun m hm => (hT.nx m hm).2) (by dsimp only at hlm ⊢; omega) (by dsimp only at hnm ⊢; omega) hfr hne.1 li hli lg _ hlf ?_ ?_ A c hrows hF).mono ?_
 · rw [hso, hq, hrl]
   have : (l.length + 1) * 4000 ≤ 100 * 4000 := Nat.mul_le_mul_right _ (by omega)
   have := hp.2
   dsimp only at hus hq ⊢
   omega
 · rw [hrl]
   dsimp only at hlg hnk ⊢
   omega
 · rintro e w' ⟨rfl, pv', hs', hpv, hKp⟩
   refine ⟨rfl, pv', ⟨_, lg ++ recAdd next, hs', ?_, ?_⟩, hpv, hKp⟩
   · have e : (l ++ [(a, b)]).length + 1 = l.length + 1 + 1 := by simp
     rw [e]; exact hT2
   · show parts ++ [[[V a, V b]]] = _
     dsimp only at hps
     rw [hps, psOf_snoc]
end K126
namespace K108
open Go Go.RowKit
open KB KB2 P2 K1 K2 K3 K17 P5 P6 P8 P9 K25 K35 K38 K42 K54 K55 K56 K57 K58 K31 K65 K70 K71 K72 K75 K77 K81 K87 K88 K89 K91 K92 K93 K94 K95 K97 K98 K99 K101 K112 K106 K107
theorem runShown (w : World) : Calls Tryz.prog 20 #[.string (BA src0)] w fun e w' => e = .returned (.string (BA (toldL outs0))) ∧ Ext w w' := by
 refine run2C src0 (by decide) outs0 ws0 rfl (by rw [len0]; decide) (by decide) (fun k h h2 => ?_) ?_ (by decide) w ?_
 · have hk : k < 6 := by rw [← len0]; exact h
   have h3 : 6 ≤ k := h2
   omega
 · intro k h h2
   have hk : k < 6 := by rw [← len0]; exact h
   have e : (wds (linesL src0)[k]).map BA = ws0[k] := by
     have := congrArg (fun l => l[k]?) lines0
     simp only [List.getElem?_map, List.getElem?_eq_getElem h, List.getElem?_eq_getElem h2, Option.map_some, Option.some.injEq] at this
     exact this
   have hlen : ∀ x ∈ ws0, x.length ≤ 1000 ∧ 1 ≤ x.length := by decide
   have hm := List.getElem_mem h2
   exact ⟨e, marks0 _ (List.getElem_mem h), (hlen _ hm).1, (hlen _ hm).2, lens0 _ (List.getElem_mem h)⟩
 · intro W db dg mg O hE hD hb h1 h2 h3 h4 h5 _
   refine ⟨SS db, fun q => q = db ∨ q = dg ∨ q = mg, deskSS db, ⟨dg, mg, _, _, _, _, hD, hb, h4, rfl⟩, ?_⟩
   rintro q (rfl | rfl | rfl)
   · exact h1
   · exact h2
   · exact h3
theorem shownC (w : World) : Calls Tryz.prog 7 #[] w fun e w' => e = .returned (.bool true) ∧ Ext w w' := by
 have HR := As.mk (runShown w)
 have e1 : toldL outs0 = [111, 107, 10, 111, 107, 10, 111, 107, 10, 111, 107, 10, 111, 107, 10, 50, 10, 49, 32, 49, 50, 10, 50, 32, 49, 10] := by decide
 rw [e1] at HR
 go_enter Tryz.func7, Tryz.ntmps7
 go_wp2_with (fail)
 refine HR.out.mono ?_; rintro e w1 ⟨rfl, hE⟩
 go_wp2_with (fail)
 go_ret
 exact ⟨rfl, hE⟩
end K108
namespace K127
open Go Go.RowKit
open KB KB2 P2 K1 K2 K3 K17 K35 K38 K42 K62 K65 K70 K71 K72 K73 K75 K88 K89 K92 K93 K101 P10 K106 K107 K108 K109 P12 P13 K113 K114 K115 K119 K124 K125 K126
def srcL (p c : Nat) (l : List (Int × Int)) : List UInt8 := toldL ((pre p c l).map lnT)
def wantL (p c : Nat) (l : List (Int × Int)) : List UInt8 := toldL ((pre p c l).map (fun _ => [111, 107]))
abbrev insW : ByteArray := ⟨#[105, 110, 115, 101, 114, 116, 32]⟩
abbrev spW : ByteArray := ⟨#[32]⟩
abbrev nlW : ByteArray := ⟨#[10]⟩
abbrev okW : ByteArray := ⟨#[111, 107, 10]⟩
abbrev ok2W : ByteArray := ⟨#[111, 107, 10, 111, 107, 10]⟩
abbrev tabW : ByteArray := ⟨#[116, 97, 98, 108, 101, 32, 115, 117, 109, 109, 105, 110, 103, 32, 49, 32, 50, 32, 105, 110, 116, 32, 117, 105, 110, 116, 10]⟩
abbrev crW : ByteArray := ⟨#[99, 114, 97, 115, 104, 32]⟩
abbrev fiveW : ByteArray := ⟨#[32, 53, 10]⟩
theorem src0 (p c : Nat) : tabW.data.toList = srcL p c [] := by
 show _ = toldL [lnT .table]
 decide
theorem want0' (p c : Nat) : okW.data.toList = wantL p c [] := by
 show _ = toldL [[111, 107]]
 decide
theorem src_no (p c : Nat) (l : List (Int × Int)) (a b : Int) (h : ¬ l.length = p) (S : ByteArray) (hS : S.data.toList = srcL p c l) : (S ++ insW ++ BA (txt 1 a) ++ spW ++ BA (txt 2 b) ++ nlW).data.toList = srcL p c (l ++ [(a, b)]) := by
 unfold srcL at hS ⊢
 rw [pre_snoc, if_neg h, List.map_append, toldL_app, ← hS]
 simp [lnT, lnW, spc, toldL]
theorem want_no (p c : Nat) (l : List (Int × Int)) (a b : Int) (h : ¬ l.length = p) (S : ByteArray) (hS : S.data.toList = wantL p c l) : (S ++ okW).data.toList = wantL p c (l ++ [(a, b)]) := by
 unfold wantL at hS ⊢
 rw [pre_snoc, if_neg h, List.map_append, toldL_app, ← hS]
 simp [toldL]
theorem src_yes (p c : Nat) (l : List (Int × Int)) (a b : Int) (h : l.length = p) (S : ByteArray) (hS : S.data.toList = srcL p c l) : (S ++ insW ++ BA (txt 1 a) ++ spW ++ BA (txt 2 b) ++ nlW ++ crW ++ BA (txt 1 c) ++ fiveW ++ tabW).data.toList = srcL p c (l ++ [(a, b)]) := by
 unfold srcL at hS ⊢
 rw [pre_snoc, if_pos h, List.map_append, toldL_app, ← hS]
 simp [lnT, lnW, spc, toldL, txt]
theorem want_yes (p c : Nat) (l : List (Int × Int)) (a b : Int) (h : l.length = p) (S : ByteArray) (hS : S.data.toList = wantL p c l) : (S ++ okW ++ ok2W).data.toList = wantL p c (l ++ [(a, b)]) := by
 unfold wantL at hS ⊢
 rw [pre_snoc, if_pos h, List.map_append, toldL_app, ← hS]
 simp [toldL]
abbrev getW : ByteArray := ⟨#[103, 101, 116, 32, 102, 105, 110, 97, 108, 10, 103, 101, 116, 32, 102, 105, 110, 97, 108, 32, 99, 111, 117, 110, 116, 32, 115, 117, 109, 32, 49, 10]⟩
theorem src_end (p c : Nat) (l : List (Int × Int)) (S : ByteArray) (hS : S.data.toList = srcL p c l) : S ++ getW = BA (toldL ((pre p c l ++ [Ln.get, Ln.getA]).map lnT)) := by
 refine ba_of ?_
 rw [List.map_append, toldL_app]
 unfold srcL at hS
 rw [← hS]
 have e : toldL ([Ln.get, Ln.getA].map lnT) = getW.data.toList := by decide
 rw [e]; simp
def lineR (r : Row) : List UInt8 := txt 1 (r.getD 0 (0, emp)).1 ++ 32 :: (txt 2 (r.getD 1 (0, emp)).1 ++ [10])
theorem gL_nl (l : List (Int × Int)) : gL l ++ [10] = Lib.decDigits (rowsT l).length ++ 10 :: ((rowsT l).map lineR).flatten := by
 have e : gL l = Lib.join ((tells (rowsT l) ((rowsT l).map rowSS)).map (·.data.toList)) [10] := rfl
 rw [e]
 show Lib.join (Lib.decDigits (rowsT l).length :: _) [10] ++ [10] = _
 rw [join_told, toldL_cons]
 congr 2
 rw [List.map_map, List.map_map]
 unfold toldL
 rw [List.map_map]
 congr 1
 refine List.map_congr_left fun r _ => ?_
 show Lib.join [txt 1 (r.getD 0 (0, emp)).1, txt 2 (r.getD 1 (0, emp)).1] [32] ++ [10] = lineR r
 simp [Lib.join, lineR]
theorem aL_nl (l : List (Int × Int)) : aL l ++ [10] = txt 1 (accR f1 (rowsT l)) ++ 32 :: (txt 2 (accR f2 (rowsT l)) ++ [10]) := by
 show Lib.join [txt 1 (accR f1 (rowsT l)), txt 2 (accR f2 (rowsT l))] [32] ++ [10] = _
 simp [Lib.join]
theorem want_end (p c : Nat) (hc : c ≤ 999999) (l : List (Int × Int)) (hg : Good2 l) : toldL (runO gL aL (0, []) (pre p c l ++ [Ln.get, Ln.getA])) = wantL p c l ++ (Lib.decDigits (rowsT l).length ++ 10 :: ((rowsT l).map lineR).flatten) ++ (txt 1 (accR f1 (rowsT l)) ++ 32 :: (txt 2 (accR f2 (rowsT l)) ++ [10])) := by
 rw [scr_outs gL aL p c hc l hg.1 hg.2, toldL_app, ← gL_nl, ← aL_nl]
 show wantL p c l ++ toldL [gL l, aL l] = _
 simp [toldL]
theorem lnT_len (st : DSt) (o : Ln) (h : Legal st o) : (lnT o).length ≤ 1000 := by
 cases o with
 | table => decide
 | ins a b =>
   have h1 := txt_len 1 a h.2.1
   have h2 := txt_len 2 b h.2.2.1
   simp only [lnT, lnW, spc, List.length_append, List.length_cons, List.length_nil]
   omega
 | crash n =>
   have h1 := txt_len 1 (n : Int) (by unfold I64; have := h.2; omega)
   have e : txt 1 (n : Int) = Lib.itoa n := rfl
   rw [e] at h1
   simp only [lnT, lnW, spc, List.length_append, List.length_cons, List.length_nil]
   omega
 | get => decide
 | getA => decide
theorem runScr (p c : Nat) (hc : c ≤ 999999) (l : List (Int × Int)) (hg : Good2 l) (S X : ByteArray) (hS : S.data.toList = srcL p c l) (hX : X.data.toList = wantL p c l ++ (Lib.decDigits (rowsT l).length ++ 10 :: ((rowsT l).map lineR).flatten) ++ (txt 1 (accR f1 (rowsT l)) ++ 32 :: (txt 2 (accR f2 (rowsT l)) ++ [10]))) (hXs : X.size ≤ 1000000) (w : World) (htab : Tab w) :
   Calls Tryz.prog 20 #[.string (S ++ getW)] w fun e w' => e = .returned (.string X) ∧ Ext w w' := by
 have hA := (scr_all p c hc l hg.1 hg.2).1
 have hn : (pre p c l ++ [Ln.get, Ln.getA]).length ≤ 100 := by
   have h1 := bod_len p c l 0
   have h2 := hg.2
   rw [List.length_append]
   show (bod p c 0 l).length + 1 + 2 ≤ 100
   omega
 have he := want_end p c hc l hg
 rw [← hX] at he
 have hr := runDesk (pre p c l ++ [Ln.get, Ln.getA]) hA hn (fun o ho => by
   obtain ⟨k, hk, rfl⟩ := List.getElem_of_mem ho
   exact lnT_len _ _ (legal_at _ _ hA k hk)) (by rw [he]; show X.size ≤ _; omega) w htab
 rw [src_end p c l S hS]
 refine hr.mono ?_
 rintro e w' ⟨rfl, hE⟩
 refine ⟨?_, hE⟩
 rw [he]
end K127
end Go.Proofs.YtbjeejimedhniaaGreatDoor
