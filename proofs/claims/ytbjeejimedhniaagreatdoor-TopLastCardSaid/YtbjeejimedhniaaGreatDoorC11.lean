/- Contracts of the program's functions, as the walks of the law use them. -/
import Derived.Test.YtbjeejimedhniaaGreatDoorC10
namespace Go.Proofs.YtbjeejimedhniaaGreatDoor
namespace K18
open Go Go.RowKit
open KB KB2 K1 K10 K2 K3 K5 K6 K7 K8 K9 K12 K13 K14 K15 K16 K17 Num
set_option linter.unusedVariables false
set_option linter.unusedSimpArgs false
set_option maxHeartbeats 2000000
set_option maxRecDepth 100000
theorem elCols : El Tryz.prog 383 40 rdRow.sz 24 := El.mk (z := .slice none 0 0) Tryz.underlying383 (by kernel_rfl) rfl (by decide)
def colsOf (l : List Row) (m : Nat) : List Row := (List.range m).map fun j => col j l
theorem colsOf_length (l : List Row) (m : Nat) : (colsOf l m).length = m := by simp [colsOf]
theorem colsOf_snoc (l : List Row) (m : Nat) : colsOf l (m + 1) = colsOf l m ++ [col m l] := by simp [colsOf, List.range_succ]
theorem rows_back (l : List Row) (m : Nat) (h : ∀ r ∈ l, r.length = m) : rowsOf l.length (colsOf l m) = l := by
  apply List.ext_getElem (by simp [rowsOf])
  intro i h1 h2
  simp only [rowsOf, colsOf, List.getElem_map, List.getElem_range, List.map_map]
  have hm := h _ (List.getElem_mem h2)
  apply List.ext_getElem (by simp [hm])
  intro j h3 h4
  simp [col, List.getD, h2, h4]
theorem takePC (F : Nat → Prop) (A Ab : Option Addr) (c cb : Nat) (ts : List Int) (l : List Row) (r b : List Int) (hb : b = colsB l 0 ts ++ r) (w : World) (hA : (rdInt .i64).Sl F w A c ts) (hbs : rdU8.Sl F w Ab cb b) (ht : ∀ t ∈ ts, Col t) (hr : ∀ r ∈ l, r.length = ts.length ∧ Fit ts r) (hn1 : 1 ≤ ts.length) (hn : ts.length ≤ 64) (hn2 : l.length ≤ 1000) (hbl : b.length ≤ 1000000) (hF : ∀ k, F k → k < w.heap.size) :
    Calls Tryz.prog 257 #[.slice A ts.length c, .slice Ab b.length cb] w fun e w' => ∃ A' c' A2 c2, e = .returned (.tuple #[.slice A' l.length c', .slice A2 r.length c2, .bool true]) ∧ rdRow.Sl F w' A' c' l ∧ rdU8.Sl F w' A2 c2 r ∧ Ext w w' := by
  have HB := As.mk hb
  have hback := rows_back l ts.length (fun r h => (hr r h).1)
  have HBK := As.mk hback
  clear hb hback
  go_enter Tryz.func257, Tryz.ntmps257
  go_wp2_with (fail)
  go_loopw [1, 7, 17] (fun bv v i wr => ∃ (k : Nat) (Ab : Option Addr) (cb : Nat) (rest : List Int), i = .int .i64 k ∧ k ≤ ts.length ∧ bv = .slice Ab rest.length cb ∧ rdU8.Sl F w Ab cb rest ∧ As (rest = colsB l k (ts.drop k) ++ r) ∧ rest.length ≤ 1000000 ∧ rdRow.Own F w.heap.size 40 wr v (colsOf l k) ∧ Ext w wr) (fun _ _ i _ => ts.length - (intOf i).toNat)
  case atStart => exact ⟨0, Ab, cb, b, by go_num, Nat.zero_le _, rfl, hbs, HB, hbl, Rd.Own.nil _ _ _ _ _, Ext.refl _⟩
  case round =>
    obtain ⟨k, Ab, cb, rest, rfl, hkl, rfl, hR, hrest, hrl, hown, hE⟩ := hrel
    by_cases hlt : k < ts.length
    · obtain ⟨bb, o, rfl, hc⟩ := int_get (hA.ext hE) hlt
      have hr1 := hrest.out
      rw [List.drop_eq_getElem_cons hlt, colsB, List.append_assoc] at hr1
      have hpl : (putB ts[k] (col k l)).length ≤ rest.length := by rw [hr1, List.length_append]; omega
      obtain ⟨A1, hsl1, hS1⟩ := hR.suf elU8 (putB ts[k] (col k l)).length (rest.length - (putB ts[k] (col k l)).length) ((putB ts[k] (col k l)).length : Int) hpl rfl rfl
      have hr2 : rest.drop (putB ts[k] (col k l)).length = colsB l (k + 1) (ts.drop (k + 1)) ++ r := by rw [hr1]; exact List.drop_left' rfl
      have HTL : As ((colsOf l k).length ≤ 64) := ⟨by rw [colsOf_length]; omega⟩
      have HR1 := As.mk hr1
      have HR2 := As.mk hr2
      have HCO := As.mk (colsOf_snoc l k)
      clear hr1 hr2
      have hF1 := FvF hown (FExt hF hE)
      have htb := takeBC (Fv F u7) ts[k] (ht _ (List.getElem_mem hlt)) Ab cb (col k l) _ rest HR1.out wr (Far (by decide) hR hE hown.ge) (by rw [col_length]; omega) (by omega) (fun v hv => by obtain ⟨q, hq, rfl⟩ := List.mem_map.1 hv; exact ((hr q hq).2 k _ (List.getElem?_eq_getElem hlt)).2) hF1
      generalize hZ : (putB ts[k] (col k l)).length = Z at *
      have HZ := As.mk hZ
      clear hZ
      go_wp2_with (fail)
      refine htb.mono ?_; rintro e w1 ⟨A2, c2, rfl, hs2, hE1⟩
      have hown1 := hown.ext hE1
      have hE2 := hE.trans hE1
      have i0 : (0 : Int) ≤ (Z : Int) := by omega
      have i1 : (Z : Int) ≤ (rest.length : Int) := by omega
      go_wp2_with (fail)
      go_region_held3 (fun _ => True) (trivial) ((refine step_push rfl (.tmp 30) (.tmp 32) 383 rfl rdRow elCols (v := u7) (by rfl) (hown1.ext (by (repeat (first | with_reducible refine Ext.drew ?_ | with_reducible refine Ext.drewN ?_ _ | with_reducible refine Ext.alloc ?_ _)); first | with_reducible assumption | with_reducible exact Ext.refl _)) (by rfl) (by exact heap_alloc_new w1 _) (y := col k l) (sl_Cn (hs2.ext (by (repeat (first | with_reducible refine Ext.drew ?_ | with_reducible refine Ext.drewN ?_ _ | with_reducible refine Ext.alloc ?_ _)); first | with_reducible assumption | with_reducible exact Ext.refl _)) rfl) (by have := HTL.out; omega) (by have := HTL.out; unfold maxLen; omega) (hE2.trans (by (repeat (first | with_reducible refine Ext.drew ?_ | with_reducible refine Ext.drewN ?_ _ | with_reducible refine Ext.alloc ?_ _)); first | with_reducible assumption | with_reducible exact Ext.refl _)) ?_; intro v' w2 hown2 hg2 hE3))
      rw [← HCO.out] at hown2
      go_wp2
      go_roundw
      case rel => exact ⟨k + 1, A1, cb - Z, rest.drop Z, by go_num, by omega, by rw [List.length_drop], hS1, HR2, by rw [List.length_drop]; omega, hown2, hE3⟩
      case measure => simp [intOf] <;> omega
    · obtain rfl : k = ts.length := by omega
      have hr1 := hrest.out
      rw [List.drop_length, colsB, List.nil_append] at hr1
      subst hr1
      obtain ⟨A1, c1, rfl, hs1⟩ := hown.shut hF
      have hrw := rowsC F A1 c1 (colsOf l ts.length) l.length wr hs1 hn2 (by rw [colsOf_length]; exact hn1) (by rw [colsOf_length]; omega) (fun c hc => by obtain ⟨j, _, rfl⟩ := List.mem_map.1 hc; exact col_length j l) (FExt hF hE)
      go_wp2_with (fail)
      refine hrw.mono ?_; rintro e w1 ⟨A2, c2, rfl, hs2, hE1⟩
      rw [HBK.out] at hs2
      go_wp2
      go_ret3
      exact ⟨A2, c2, Ab, cb, rfl, hs2, hR.ext (hE.trans hE1), hE.trans hE1⟩
theorem one_grow {α : Type} {R : Rd α} (hsz : 0 < R.sz) {F : Nat → Prop} {v v' : Value} {w w' : World} {A : Option Addr} {c : Nat} {l : List α} (h : R.Sl (Fv F v) w A c l) (hg : w.grownBy w' v.ownBlock) (hat : KB2.At' w v v') : R.Sl (Fv F v') w' A c l := by
  have h1 := h.narrow hsz (G := fun k => F k ∨ v.ownBlock = some k ∨ k = w.heap.size) (fun k hk hG => by
    rcases hG with h | h | h
    · exact .inl h
    · exact .inr h
    · omega)
  have h2 := h1.keep (Keep.of_grown hg (fun k hk _ => .inr (.inl hk)))
  refine h2.narrow hsz (fun k hk hG => ?_)
  rcases hG with h | h
  · exact .inl h
  · rcases hat with e | e
    · exact .inr (.inl (by rw [← e]; exact h))
    · rw [e] at h; cases h; exact .inr (.inr rfl)
theorem putB_pos (t : Int) (l : List Val) : 1 ≤ (putB t l).length := by
  rw [putB, frame_length]; have := pv_pos (t :: putI (l.map (·.1))).length; omega
theorem colsB_pos (l : List Row) (k : Nat) (ts : List Int) (h : 1 ≤ ts.length) : 1 ≤ (colsB l k ts).length := by
  cases ts with
  | nil => simp at h
  | cons t ts => rw [colsB, List.length_append]; have := putB_pos t (col k l); omega
theorem readPC (F : Nat → Prop) (A Ab : Option Addr) (c cb : Nat) (s : Sch) (C : List (List Row)) (r b : List Int) (hb : b = granB s.types C ++ r) (w : World) (hA : SchAt F w A c s) (hbs : rdU8.Sl F w Ab cb b) (hs : s.Ok) (ht : ∀ t ∈ s.types, Col t) (hr : ∀ g ∈ C, g.length ≤ 1000 ∧ ∀ r ∈ g, RowOk s r) (hn : C.flatten.length ≤ 2000) (hbl : b.length ≤ 1000000) (hF : ∀ k, F k → k < w.heap.size) :
    Calls Tryz.prog 161 #[schV A c s, .slice Ab b.length cb, .int .i64 r.length] w fun e w' => ∃ A' c', e = .returned (.tuple #[.slice A' C.flatten.length c', .bool true]) ∧ rdRow.Sl F w' A' c' C.flatten ∧ Ext w w' := by
  have HB := As.mk hb
  have hn1 := hs.n1
  have hn2 := hs.n2
  have hB := SchBox.new hA
  have hEb := (Ext.refl w).alloc (.cells #[.slice A s.types.length c, .int .i64 s.keys, .int .i64 s.mode, .int .i64 s.grain] 27)
  have hFb := FExt hF hEb
  have hbb := hbs.ext hEb
  have HN := As.mk hn
  have HR := As.mk hr
  clear hb hn hr
  go_enter Tryz.func161, Tryz.ntmps161
  go_wp2_with (fail)
  generalize (w.alloc (.cells #[.slice A s.types.length c, .int .i64 s.keys, .int .i64 s.mode, .int .i64 s.grain] 27)) = wb at *
  go_loopw [1, 8] (fun bv v wr => ∃ (k : Nat) (Ab : Option Addr) (cb : Nat) (rest : List Int), k ≤ C.length ∧ bv = .slice Ab rest.length cb ∧ rdU8.Sl (Fv F v) wr Ab cb rest ∧ As (rest = granB s.types (C.drop k) ++ r) ∧ rest.length ≤ 1000000 ∧ rdRow.Own F wb.heap.size 41 wr v (C.take k).flatten ∧ Ext wb wr) (fun bv _ _ => lenOf bv)
  case atStart => exact ⟨0, Ab, cb, b, Nat.zero_le _, rfl, hbb.narrow (by decide) (fun k _ hG => hG.elim id (fun h => by cases h)), HB, hbl, Rd.Own.nil _ _ _ _ _, Ext.refl _⟩
  case round =>
    obtain ⟨k, Ab, cb, rest, hkl, rfl, hR, hrest, hrl, hown, hE⟩ := hrel
    by_cases hlt : k < C.length
    · have hr1 := hrest.out
      rw [List.drop_eq_getElem_cons hlt, granB_cons, List.append_assoc] at hr1
      have hcp := colsB_pos C[k] 0 s.types hn1
      have hrl2 : r.length < rest.length := by rw [hr1]; simp only [List.length_append]; omega
      have hlr : decide ((r.length : Int) < (rest.length : Int)) = true := decide_eq_true (by omega)
      have hT := congrArg List.flatten (take_snoc C hlt)
      rw [List.flatten_append, List.flatten_singleton] at hT
      obtain ⟨M, hM⟩ : ∃ M, (C.take k).flatten = M := ⟨_, rfl⟩
      rw [hM] at hown hT
      have htot : M.length + C[k].length ≤ 2000 := by
        have h1 := HN.out
        have h2 : C.flatten = (C.take (k + 1)).flatten ++ (C.drop (k + 1)).flatten := by rw [← List.flatten_append, List.take_append_drop]
        rw [h2, hT, List.length_append, List.length_append] at h1
        omega
      have HT := As.mk hT
      have HTO := As.mk htot
      obtain ⟨R2, hR2⟩ : ∃ R2, granB s.types (C.drop (k + 1)) ++ r = R2 := ⟨_, rfl⟩
      rw [hR2] at hr1
      have hrr : R2.length ≤ rest.length := by rw [hr1, List.length_append]; omega
      have hrr3 : R2.length < rest.length := by rw [hr1, List.length_append]; omega
      have HR1 := As.mk hr1
      have HR2 := As.mk hR2
      obtain ⟨hg1, hg2⟩ := HR.out C[k] (List.getElem_mem hlt)
      clear hr1 hT hM hR2 hcp
      have d2 : decide ((2000 : Int) < (M.length : Int) + (C[k].length : Int)) = false := decide_eq_false (by have := HTO.out; omega)
      have q0 := blk_cell (hB.ext hE).1 0
      have htk := takePC (Fv F u8) A Ab c cb s.types C[k] R2 rest HR1.out wr (Rd.Sl.ext (far0 (rdInt .i64) (by decide) hB.2 hown.ge) hE) hR ht (fun q hq => ⟨(hg2 q hq).len, fitR (hg2 q hq)⟩) hn1 hn2 hg1 hrl (FvF hown (FExt hFb hE))
      obtain ⟨Av, cv, rfl, _⟩ := hown.shut hFb
      go_wp2_with (fail)
      refine htk.mono ?_; rintro e w1 ⟨A1, c1, A2, c2, rfl, hs1, hs2, hE1⟩
      go_wp2_with (first | (at_builtin; refine wpList_appAt (o := ⟨some 36, _, _, _, _, _⟩) rfl _ _ _ rfl rdRow K9.elRow rfl (hown.ext hE1) rfl rfl hs1 (by have := HTO.out; omega) (by have := HTO.out; unfold maxLen; omega) (hE.trans hE1).size ?_; intro v' w2 hown2 hg2 hat2))
      rw [← HT.out] at hown2
      go_roundw
      case rel => exact ⟨k + 1, A2, c2, R2, by omega, rfl, one_grow (by decide) hs2 hg2 hat2, ⟨HR2.out.symm⟩, by omega, hown2, Ext.grown (hE.trans hE1) hg2 (fun k hk => (hown.ge k hk).1)⟩
      case measure => simp [lenOf]; omega
    · obtain rfl : k = C.length := by omega
      have hr1 := hrest.out
      rw [List.drop_length, granB_nil, List.nil_append] at hr1
      subst hr1
      rw [List.take_length] at hown
      obtain ⟨Av, cv, rfl, hsv⟩ := hown.shut hFb
      have hlr : decide ((rest.length : Int) < (rest.length : Int)) = false := decide_eq_false (by omega)
      go_wp2
      go_ret2
      exact ⟨_, _, rfl, hsv, hEb.trans hE⟩
end K18
namespace K19
open Go Go.RowKit
open KB KB2 K1 K2 K3 K5 K6 K7 K8 K9 K12 K13 K14 K15 K16 K17 K18 Num
set_option linter.unusedVariables false
set_option linter.unusedSimpArgs false
set_option maxHeartbeats 2000000
set_option maxRecDepth 100000
theorem chunks_all (g : Nat) (hg : 1 ≤ g) : ∀ (n : Nat) (l : List Row), l.length ≤ n → (chunks g l).flatten = l ∧ ∀ c ∈ chunks g l, c.length ≤ g := by
  intro n
  induction n with
  | zero => intro l h; obtain rfl : l = [] := List.eq_nil_of_length_eq_zero (by omega); simp [chunks_nil]
  | succ n ih =>
    intro l h
    by_cases hl : l = []
    · subst hl; simp [chunks_nil]
    · have hp : 0 < l.length := List.length_pos_iff.2 hl
      obtain ⟨h1, h2⟩ := ih (l.drop g) (by rw [List.length_drop]; omega)
      rw [chunks_step g hg hl, List.flatten_cons, h1, List.take_append_drop]
      refine ⟨rfl, fun c hc => ?_⟩
      rcases List.mem_cons.1 hc with rfl | hc
      · rw [List.length_take]; omega
      · exact h2 c hc
/-- A part stands in block g. -/
def PartAt (F : Nat → Prop) (w : World) (g : Nat) (s : Sch) (l : List Row) : Prop := ¬ F g ∧ ∃ A c Ag cg Am cm Ar cr,
  w.heap[g]? = some (.cells #[.slice A s.types.length c, .int .i64 s.keys, .int .i64 s.mode, .int .i64 s.grain, .slice Ag (chunks s.grain l).length cg, .slice Am (marks s l).length cm, .slice Ar l.length cr] 170 (0, 0)) ∧
  SchAt F w A c s ∧ rdRows.Sl F w Ag cg (chunks s.grain l) ∧ rdRow.Sl F w Am cm (marks s l) ∧ rdRow.Sl F w Ar cr l
theorem PartAt.keep {F : Nat → Prop} {w w' : World} {g : Nat} {s : Sch} {l : List Row} (h : PartAt F w g s l) (k : Keep F w w') : PartAt F w' g s l := by
  obtain ⟨hg, A, c, Ag, cg, Am, cm, Ar, cr, hb, h1, h2, h3, h4⟩ := h
  exact ⟨hg, A, c, Ag, cg, Am, cm, Ar, cr, k.blk hg hb, Rd.Sl.keep h1 k, h2.keep k, h3.keep k, h4.keep k⟩
theorem PartAt.ext {F : Nat → Prop} {w w' : World} {g : Nat} {s : Sch} {l : List Row} (h : PartAt F w g s l) (k : Ext w w') : PartAt F w' g s l := h.keep (k.keep F)
theorem openPC (F : Nat → Prop) (A : Option Addr) (c : Nat) (s : Sch) (l : List Row) (b : List Int) (hb : b = partB s l) (w : World) (hA : rdU8.Sl F w A c b) (ho : PartOk s l) (hF : ∀ k, F k → k < w.heap.size) :
    Calls Tryz.prog 77 #[.slice A b.length c] w fun e w' => ∃ g, e = .returned (.tuple #[.pointer (some ⟨g, 0, none⟩), .int .i64 0]) ∧ w.heap.size ≤ g ∧ PartAt F w' g s l ∧ Ext w w' := by
  have hs := ho.sch
  have hbl : b.length ≤ 1000000 := by rw [hb]; exact ho.small
  have h8 : ∀ x, (le8 x).length = 8 := fun _ => rfl
  have hsp : b = body s l ++ (tailB s l ++ le8 (body s l).length) := hb
  have hn8 : b.length = (body s l).length + (tailB s l).length + 8 := by rw [hsp]; simp only [List.length_append, h8]; omega
  have hhd : b = frame (putSch s) ++ (granB s.types (chunks s.grain l) ++ (tailB s l ++ le8 (body s l).length)) := by rw [hsp, body, head, List.append_assoc]
  have hpl : (putSch s).length ≤ 68 := by rw [putSch, putN_length _ (nums_small hs), nums_length]; have := hs.n2; omega
  have hhl : (frame (putSch s)).length ≤ b.length := by rw [hhd, List.length_append]; omega
  have hbd : (body s l).length = (frame (putSch s)).length + (granB s.types (chunks s.grain l)).length := by rw [body, head, List.length_append]
  obtain ⟨A8, hsl8, hS8⟩ := hA.suf elU8 (b.length - 8) 8 ((b.length : Int) - 8) (by omega) (by omega) (by omega)
  obtain ⟨An, hsln, hSn⟩ := hA.suf elU8 (frame (putSch s)).length (b.length - (frame (putSch s)).length) ((frame (putSch s)).length : Int) hhl rfl rfl
  have he8 : b.drop (b.length - 8) = le8 (body s l).length ++ [] := by
    rw [List.append_nil]
    conv => lhs; rw [hsp, ← List.append_assoc]
    exact List.drop_left' (by simp only [List.length_append, h8]; omega)
  have hen : b.drop (frame (putSch s)).length = granB s.types (chunks s.grain l) ++ (tailB s l ++ le8 (body s l).length) := by
    conv => lhs; rw [hhd]
    exact List.drop_left' rfl
  have hd8 : (b.drop (b.length - 8)).length = 8 := by rw [List.length_drop]; omega
  have hdn : (b.drop (frame (putSch s)).length).length = b.length - (frame (putSch s)).length := List.length_drop
  have htl : (tailB s l ++ le8 (body s l).length).length = b.length - (body s l).length := by rw [List.length_append, h8]; omega
  have d8 : decide ((b.length : Int) < 8) = false := decide_eq_false (by omega)
  have hun := fun W hW hF => unframeC F A c (putSch s) _ b hhd W hW (by omega) (by omega) hF
  have HB := As.mk hb
  have H8 := As.mk he8
  have HN := As.mk hen
  have HD8 := As.mk hd8
  have HDN := As.mk hdn
  have HTL := As.mk htl
  obtain ⟨N, hN⟩ : ∃ N, (frame (putSch s)).length = N := ⟨_, rfl⟩
  obtain ⟨Z, hZ⟩ : ∃ Z, (body s l).length = Z := ⟨_, rfl⟩
  have hZb : Z + 8 ≤ b.length := by omega
  have hNb : N ≤ b.length := by omega
  have hwz : IntKind.u64.wrap (b.length : Int) = b.length := by rw [IntKind.wrap_u64]; omega
  have dz : decide ((b.length : Int) < (Z : Int)) = false := decide_eq_false (by omega)
  rw [hN] at hsln
  simp only [hN] at hun
  have HZ := As.mk hZ
  have HNN := As.mk hN
  clear hb hsp hn8 hhd hhl hbd he8 hen hd8 hdn htl hN hZ h8
  go_enter Tryz.func77, Tryz.ntmps77
  go_wp2_with (fail)
  refine (hun w hA hF).mono ?_; rintro e w1 ⟨A1, c1, rfl, hs1, hE1⟩
  go_wp2_with (fail)
  refine (takeSC F A1 c1 s w1 (putSch s) rfl hs1 hs (FExt hF hE1)).mono ?_; rintro e w2 ⟨A2, c2, rfl, hsA, hE2⟩
  replace hE2 := hE1.trans hE2
  go_wp2_with (fail)
  have hB3 := SchBox.new hsA
  have hE3 := hE2.alloc (.cells #[.slice A2 s.types.length c2, .int .i64 s.keys, .int .i64 s.mode, .int .i64 s.grain] 27)
  have hws : w2.heap.size < (w2.alloc (.cells #[.slice A2 s.types.length c2, .int .i64 s.keys, .int .i64 s.mode, .int .i64 s.grain] 27)).heap.size := by simp
  generalize (w2.alloc (.cells #[.slice A2 s.types.length c2, .int .i64 s.keys, .int .i64 s.mode, .int .i64 s.grain] 27)) = w3 at *
  have hg64 := get64C F A8 (c - (b.length - 8)) Z [] (b.drop (b.length - 8)) (by rw [H8.out, HZ.out]) w3 (by omega) (hS8.ext hE3) (by rw [HD8.out]; decide)
  rw [HD8.out] at hg64
  refine hg64.mono ?_; rintro e w4 ⟨rfl, hE4⟩
  replace hB3 := hB3.ext hE4
  replace hE4 := hE3.trans hE4
  go_wp2_with (fail)
  have hCA := As.mk (chunks_all s.grain hs.g1 l.length l (Nat.le_refl _))
  have hCP := As.mk (chunks_pos s.grain hs.g1 l.length l (Nat.le_refl _))
  have hF4 := FExt hF hE4
  have hrd : ∀ W, Ext w4 W → Calls Tryz.prog 161 #[.agg #[.slice A2 s.types.length c2, .int .i64 s.keys, .int .i64 s.mode, .int .i64 s.grain], .slice An (b.length - N) (c - N), .int .i64 ((b.length : Int) - (Z : Int))] W fun e w' => ∃ A' c', e = .returned (.tuple #[.slice A' l.length c', .bool true]) ∧ rdRow.Sl F w' A' c' l ∧ Ext W w' := by
    intro W hW
    have := readPC F A2 An c2 (c - N) s (chunks s.grain l) (tailB s l ++ le8 (body s l).length) (b.drop (frame (putSch s)).length) HN.out W (Rd.Sl.ext hB3.2 hW) (by have := hSn.ext (hE4.trans hW); rw [HNN.out] at this ⊢; exact this) hs ho.col (fun g hg => ⟨Nat.le_trans (hCA.out.2 g hg) (Nat.le_trans hs.g2 (by decide)), fun r hr => ho.rows r ((hCP.out g hg).2 r hr)⟩) (by rw [hCA.out.1]; exact ho.n2) (by rw [HDN.out]; omega) (FExt hF4 hW)
    rw [HDN.out, HTL.out, hCA.out.1, HNN.out, HZ.out, show ((b.length - Z : Nat) : Int) = (b.length : Int) - (Z : Int) by omega] at this
    exact this
  have g0 := blk_cell hB3.1 0
  have g1 := blk_cell hB3.1 1
  have g2 := blk_cell hB3.1 2
  have g3 := blk_cell hB3.1 3
  have hwz2 : IntKind.i64.wrap (Z : Int) = Z := by rw [IntKind.wrap_i64]; omega
  have hwz3 : IntKind.i64.wrap ((b.length : Int) - (Z : Int)) = (b.length : Int) - (Z : Int) := by rw [IntKind.wrap_i64]; omega
  have i0 : (0 : Int) ≤ (N : Int) := by omega
  have i1 : (N : Int) ≤ (b.length : Int) := by omega
  have keep : ∀ w', Ext w4 w' → Ext w4 w' ∧ w'.cell? ⟨w2.heap.size, 0, none⟩ = some (.slice A2 s.types.length c2) ∧ w'.cell? ⟨w2.heap.size, 1, none⟩ = some (.int .i64 s.keys) ∧ w'.cell? ⟨w2.heap.size, 2, none⟩ = some (.int .i64 s.mode) ∧ w'.cell? ⟨w2.heap.size, 3, none⟩ = some (.int .i64 s.grain) := fun w' h => ⟨h, h.cell g0, h.cell g1, h.cell g2, h.cell g3⟩
  go_region_held3 (fun w' => Ext w4 w' ∧ w'.cell? ⟨w2.heap.size, 0, none⟩ = some (.slice A2 s.types.length c2) ∧ w'.cell? ⟨w2.heap.size, 1, none⟩ = some (.int .i64 s.keys) ∧ w'.cell? ⟨w2.heap.size, 2, none⟩ = some (.int .i64 s.mode) ∧ w'.cell? ⟨w2.heap.size, 3, none⟩ = some (.int .i64 s.grain)) (((try dsimp only); refine keep _ ?_; first | with_reducible assumption | exact (by (repeat (first | with_reducible refine Ext.drew ?_ | with_reducible refine Ext.drewN ?_ _ | with_reducible refine Ext.alloc ?_ _)); first | with_reducible assumption | with_reducible exact Ext.refl _))) (first | (go_at_call 161; refine (hrd _ (by (repeat (first | with_reducible refine Ext.drew ?_ | with_reducible refine Ext.drewN ?_ _ | with_reducible refine Ext.alloc ?_ _)); first | with_reducible assumption | with_reducible exact Ext.refl _)).mono ?_; rintro e w5 ⟨A5, c5, rfl, hs5, hE5⟩; have hx5 : Ext w4 w5 := Ext.trans (by (repeat (first | with_reducible refine Ext.drew ?_ | with_reducible refine Ext.drewN ?_ _ | with_reducible refine Ext.alloc ?_ _)); first | with_reducible assumption | with_reducible exact Ext.refl _) hE5))
  (try simp only [Exit.inBlock, Exit.then])
  have hB5 := hB3.ext hx5
  have hE5' := hE4.trans hx5
  clear g0 g1 g2 g3 keep hrd i0 i1 hwz2 hwz3
  have g0 := blk_cell hB5.1 0
  have g1 := blk_cell hB5.1 1
  have g2 := blk_cell hB5.1 2
  have g3 := blk_cell hB5.1 3
  have hwr := writeC F A2 c2 s A5 c5 l w5 hB5.2 hs5 ho (FExt hF hE5')
  rw [← HB.out] at hwr
  go_wp2_with (fail)
  refine hwr.mono ?_; rintro e w6 ⟨A6, c6, rfl, hs6, hE6⟩
  have hE6' := hE5'.trans hE6
  go_wp2_with (fail)
  refine (bytesEqC F A6 A c6 c b w6 hs6 (hA.ext hE6')).mono ?_; rintro e w' ⟨rfl, rfl⟩
  have hB6 := hB5.ext hE6
  have hs56 := hs5.ext hE6
  clear g0 g1 g2 g3
  have g0 := blk_cell hB6.1 0
  have g1 := blk_cell hB6.1 1
  have g2 := blk_cell hB6.1 2
  have g3 := blk_cell hB6.1 3
  have keep : ∀ w', Ext w6 w' → Ext w6 w' ∧ w'.cell? ⟨w2.heap.size, 0, none⟩ = some (.slice A2 s.types.length c2) ∧ w'.cell? ⟨w2.heap.size, 1, none⟩ = some (.int .i64 s.keys) ∧ w'.cell? ⟨w2.heap.size, 2, none⟩ = some (.int .i64 s.mode) ∧ w'.cell? ⟨w2.heap.size, 3, none⟩ = some (.int .i64 s.grain) := fun w' h => ⟨h, h.cell g0, h.cell g1, h.cell g2, h.cell g3⟩
  have hF6 := FExt hF hE6'
  have hmk : ∀ r ∈ l, s.keys ≤ r.length ∧ r.length ≤ 1000 := fun r h => by rw [(ho.rows r h).len]; have := hs.k2; have := hs.n2; omega
  have hn2 := ho.n2
  go_wp2_with (fail)
  go_region_held3 (fun w' => Ext w6 w' ∧ w'.cell? ⟨w2.heap.size, 0, none⟩ = some (.slice A2 s.types.length c2) ∧ w'.cell? ⟨w2.heap.size, 1, none⟩ = some (.int .i64 s.keys) ∧ w'.cell? ⟨w2.heap.size, 2, none⟩ = some (.int .i64 s.mode) ∧ w'.cell? ⟨w2.heap.size, 3, none⟩ = some (.int .i64 s.grain)) (((try dsimp only); refine keep _ ?_; first | with_reducible assumption | exact (by (repeat (first | with_reducible refine Ext.drew ?_ | with_reducible refine Ext.drewN ?_ _ | with_reducible refine Ext.alloc ?_ _)); first | with_reducible assumption | with_reducible exact Ext.refl _))) (first | (go_at_call 130; refine (splitC F A2 c2 s A5 c5 l _ hs (hs56.ext (by (repeat (first | with_reducible refine Ext.drew ?_ | with_reducible refine Ext.drewN ?_ _ | with_reducible refine Ext.alloc ?_ _)); first | with_reducible assumption | with_reducible exact Ext.refl _)) (by omega) (FExt hF6 (by (repeat (first | with_reducible refine Ext.drew ?_ | with_reducible refine Ext.drewN ?_ _ | with_reducible refine Ext.alloc ?_ _)); first | with_reducible assumption | with_reducible exact Ext.refl _))).mono ?_; rintro e w7 ⟨A7, c7, rfl, hs7, hE7⟩; have hx7 : Ext w6 w7 := Ext.trans (by (repeat (first | with_reducible refine Ext.drew ?_ | with_reducible refine Ext.drewN ?_ _ | with_reducible refine Ext.alloc ?_ _)); first | with_reducible assumption | with_reducible exact Ext.refl _) hE7) | (go_at_call 134; refine (marksC F A2 c2 s A5 c5 l _ hs (hs56.ext (by (repeat (first | with_reducible refine Ext.drew ?_ | with_reducible refine Ext.drewN ?_ _ | with_reducible refine Ext.alloc ?_ _)); first | with_reducible assumption | with_reducible exact Ext.refl _)) hmk (by omega) (FExt hF6 (by (repeat (first | with_reducible refine Ext.drew ?_ | with_reducible refine Ext.drewN ?_ _ | with_reducible refine Ext.alloc ?_ _)); first | with_reducible assumption | with_reducible exact Ext.refl _))).mono ?_; rintro e w8 ⟨A9, c9, rfl, hs9, hE8⟩; have hx8 : Ext w7 w8 := Ext.trans (by (repeat (first | with_reducible refine Ext.drew ?_ | with_reducible refine Ext.drewN ?_ _ | with_reducible refine Ext.alloc ?_ _)); first | with_reducible assumption | with_reducible exact Ext.refl _) hE8; have hx68 := hx7.trans hx8))
  (try simp only [Exit.inBlock, Exit.then])
  have hEa := (Ext.refl w8).alloc (.cells #[.slice A2 s.types.length c2, .int .i64 s.keys, .int .i64 s.mode, .int .i64 s.grain, .slice A7 (chunks s.grain l).length c7, .slice A9 (marks s l).length c9, .slice A5 l.length c5] 170)
  have hE8w := hE6'.trans hx68
  have hbn := blk_new w8 (.cells #[.slice A2 s.types.length c2, .int .i64 s.keys, .int .i64 s.mode, .int .i64 s.grain, .slice A7 (chunks s.grain l).length c7, .slice A9 (marks s l).length c9, .slice A5 l.length c5] 170)
  go_wp2
  go_ret2
  exact ⟨w8.heap.size, rfl, hE8w.size, ⟨fun h => Nat.lt_irrefl _ (FExt hF hE8w _ h), A2, c2, A7, c7, A9, c9, A5, c5, hbn, Rd.Sl.ext hB6.2 (hx68.trans hEa), hs7.ext (hx8.trans hEa), hs9.ext hEa, hs56.ext (hx68.trans hEa)⟩, hE8w.trans hEa⟩
end K19
namespace K20
open Go Go.RowKit
open KB KB2 K1 K2 K3 K9 K12 K17 K19
set_option linter.unusedVariables false
set_option linter.unusedSimpArgs false
set_option maxHeartbeats 2000000
set_option maxRecDepth 100000
theorem copiedC (F : Nat → Prop) (A : Option Addr) (c : Nat) (l : List Row) (w : World) (hA : rdRow.Sl F w A c l) (hn : l.length ≤ 1000000) (hr : ∀ r ∈ l, r.length ≤ 1000) (hF : ∀ k, F k → k < w.heap.size) :
    Calls Tryz.prog 163 #[.slice A l.length c] w fun e w' => ∃ A' c', e = .returned (.slice A' l.length c') ∧ rdRow.Sl F w' A' c' l ∧ Ext w w' := by
  go_enter Tryz.func163, Tryz.ntmps163
  go_wp2_with (fail)
  go_loopw [3, 8] (fun v i wr => ∃ k : Nat, i = .int .i64 k ∧ k ≤ l.length ∧ rdRow.Own F w.heap.size 41 wr v (l.take k) ∧ Ext w wr) (fun _ i _ => l.length - (intOf i).toNat)
  case atStart => exact ⟨0, by go_num, Nat.zero_le _, Rd.Own.nil _ _ _ _ _, Ext.refl _⟩
  case round =>
    obtain ⟨k, rfl, hkl, hown, hE⟩ := hrel
    by_cases hlt : k < l.length
    · obtain ⟨b, o, A2, c2, rfl, hc, hcr⟩ := sl_get (far0 rdRow (by decide) hA hown.ge) hlt
      replace hc := hE.cell hc
      have HT := As.mk (take_snoc l hlt)
      have HTL : As ((l.take k).length ≤ 1000000) := ⟨by rw [List.length_take]; omega⟩
      go_wp2_with (fail)
      refine (cloneV (Fv F u3) A2 c2 l[k] wr (hcr.ext hE) (by have := hr _ (List.getElem_mem hlt); omega) (FvF hown (FExt hF hE))).mono ?_; rintro e w1 ⟨A3, c3, rfl, hs3, hE1⟩
      go_wp2_with (first | (at_builtin; refine wpList_push rfl _ _ _ rfl rdRow elRow rfl (hown.ext (hE1.alloc _)) rfl (heap_alloc_new w1 _) (y := l[k]) (sl_Cn (hs3.ext ((Ext.refl w1).alloc _)) rfl) (by have := HTL.out; omega) (by have := HTL.out; unfold maxLen; omega) (by have := (hE.trans hE1).size; simp; omega) ((hE.trans hE1).alloc _) ?_; intro v' w2 hown2 hg2 hE2))
      rw [← HT.out] at hown2
      go_roundw
      case rel => exact ⟨k + 1, by go_num, by omega, hown2, hE2⟩
      case measure => simp [intOf] <;> omega
    · obtain rfl : k = l.length := by omega
      rw [List.take_length] at hown
      obtain ⟨A', c', rfl, hs⟩ := hown.shut hF
      go_wp2
      go_ret
      exact ⟨A', c', rfl, hs, hE⟩
section
variable (F : Nat → Prop) (g : Nat) (s : Sch) (l : List Row) (w : World)
theorem rowsPC (h : PartAt F w g s l) : Calls Tryz.prog 58 #[.pointer (some ⟨g, 0, none⟩)] w fun e w' => e = .returned (.int .i64 l.length) ∧ w = w' := by
  obtain ⟨hg, A, c, Ag, cg, Am, cm, Ar, cr, hb, h1, h2, h3, h4⟩ := h
  have c6 := blk_cell hb 6
  go_enter Tryz.func58, Tryz.ntmps58
  go_wp2
  go_ret
  simp
theorem granulesC (h : PartAt F w g s l) : Calls Tryz.prog 287 #[.pointer (some ⟨g, 0, none⟩)] w fun e w' => e = .returned (.int .i64 (chunks s.grain l).length) ∧ w = w' := by
  obtain ⟨hg, A, c, Ag, cg, Am, cm, Ar, cr, hb, h1, h2, h3, h4⟩ := h
  have c4 := blk_cell hb 4
  go_enter Tryz.func287, Tryz.ntmps287
  go_wp2
  go_ret
  simp
theorem allC (h : PartAt F w g s l) (hn : l.length ≤ 1000000) (hr : ∀ r ∈ l, r.length ≤ 1000) (hF : ∀ k, F k → k < w.heap.size) : Calls Tryz.prog 79 #[.pointer (some ⟨g, 0, none⟩)] w fun e w' => ∃ A' c', e = .returned (.slice A' l.length c') ∧ rdRow.Sl F w' A' c' l ∧ Ext w w' := by
  obtain ⟨hg, A, c, Ag, cg, Am, cm, Ar, cr, hb, h1, h2, h3, h4⟩ := h
  have c6 := blk_cell hb 6
  go_enter Tryz.func79, Tryz.ntmps79
  go_wp2_with (fail)
  refine (copiedC F Ar cr l w h4 hn hr hF).mono ?_; rintro e w1 ⟨A', c', rfl, hs, hE⟩
  go_wp2
  go_ret
  exact ⟨A', c', rfl, hs, hE⟩
theorem thereC (h : PartAt F w g s l) (k : Nat) (hk : k < (chunks s.grain l).length) : Calls Tryz.prog 289 #[.pointer (some ⟨g, 0, none⟩), .int .i64 k] w fun e w' => e = .returned (.bool true) ∧ w = w' := by
  obtain ⟨hg, A, c, Ag, cg, Am, cm, Ar, cr, hb, h1, h2, h3, h4⟩ := h
  have c4 := blk_cell hb 4
  have d0 : decide ((0 : Int) ≤ (k : Int)) = true := decide_eq_true (by omega)
  have d1 : decide ((k : Int) < ((chunks s.grain l).length : Int)) = true := decide_eq_true (by omega)
  go_enter Tryz.func289, Tryz.ntmps289
  go_wp2
  go_ret
  simp
theorem markC (h : PartAt F w g s l) (k : Nat) (hk : k < (marks s l).length) (hr : ∀ r ∈ marks s l, r.length ≤ 1000) (hF : ∀ k, F k → k < w.heap.size) : Calls Tryz.prog 288 #[.pointer (some ⟨g, 0, none⟩), .int .i64 k] w fun e w' => ∃ A' c', e = .returned (.tuple #[.slice A' ((marks s l)[k]).length c', .bool true]) ∧ rdVal.Sl F w' A' c' (marks s l)[k] ∧ Ext w w' := by
  have hth := thereC F g s l w h k (by have : (marks s l).length = (chunks s.grain l).length := by rw [marks, List.length_map]
                                       omega)
  obtain ⟨hg, A, c, Ag, cg, Am, cm, Ar, cr, hb, h1, h2, h3, h4⟩ := h
  have c5 := blk_cell hb 5
  obtain ⟨b, o, A2, c2, rfl, hc, hcr⟩ := sl_get h3 hk
  have hcl := cloneV F A2 c2 (marks s l)[k] w hcr (by have := hr _ (List.getElem_mem hk); omega) hF
  generalize marks s l = M at *
  go_enter Tryz.func288, Tryz.ntmps288
  go_wp2_with (fail)
  refine hth.mono ?_; rintro e w' ⟨rfl, rfl⟩
  go_wp2_with (fail)
  refine hcl.mono ?_; rintro e w1 ⟨A', c', rfl, hs, hE⟩
  go_wp2
  go_ret2
  exact ⟨A', c', rfl, hs, hE⟩
theorem granuleC (h : PartAt F w g s l) (k : Nat) (hk : k < (chunks s.grain l).length) (hn : ∀ c ∈ chunks s.grain l, c.length ≤ 1000000 ∧ ∀ r ∈ c, r.length ≤ 1000) (hF : ∀ k, F k → k < w.heap.size) : Calls Tryz.prog 207 #[.pointer (some ⟨g, 0, none⟩), .int .i64 k] w fun e w' => ∃ A' c', e = .returned (.tuple #[.slice A' ((chunks s.grain l)[k]).length c', .bool true]) ∧ rdRow.Sl F w' A' c' (chunks s.grain l)[k] ∧ Ext w w' := by
  have hth := thereC F g s l w h k hk
  obtain ⟨hg, A, c, Ag, cg, Am, cm, Ar, cr, hb, h1, h2, h3, h4⟩ := h
  have c4 := blk_cell hb 4
  obtain ⟨b, o, A2, c2, rfl, hc, hcr⟩ := sl_get h2 hk
  obtain ⟨q1, q2⟩ := hn _ (List.getElem_mem hk)
  have hcl := copiedC F A2 c2 (chunks s.grain l)[k] w hcr q1 q2 hF
  generalize chunks s.grain l = M at *
  go_enter Tryz.func207, Tryz.ntmps207
  go_wp2_with (fail)
  refine hth.mono ?_; rintro e w' ⟨rfl, rfl⟩
  go_wp2_with (fail)
  refine hcl.mono ?_; rintro e w1 ⟨A', c', rfl, hs, hE⟩
  go_wp2
  go_ret2
  exact ⟨A', c', rfl, hs, hE⟩
end
end K20
namespace P1
variable {β : Type}
theorem getD_set (l : List β) (i k : Nat) (x d : β) : (l.set i x).getD k d = if k = i ∧ i < l.length then x else l.getD k d := by
  simp only [List.getD_eq_getElem?_getD, List.getElem?_set]
  by_cases h : k = i
  · subst h
    by_cases h2 : k < l.length
    · simp [h2]
    · simp [h2]
  · rw [if_neg (fun e => h e.symm), if_neg (fun e => h e.1)]
/-- Two that change places. -/
def sw (d : β) (l : List β) (i j : Nat) : List β := (l.set i (l.getD j d)).set j (l.getD i d)
theorem sw_length (d : β) (l : List β) (i j : Nat) : (sw d l i j).length = l.length := by simp [sw]
theorem sw_get (d : β) (l : List β) (i j k : Nat) (hi : i < l.length) (hj : j < l.length) : (sw d l i j).getD k d = if k = j then l.getD i d else if k = i then l.getD j d else l.getD k d := by
  rw [sw, getD_set, getD_set]
  simp only [List.length_set, hi, hj, and_true]
theorem sw_perm (d : β) (l : List β) (i j : Nat) (hi : i < l.length) (hj : j < l.length) : (sw d l i j).Perm l := by
  have e1 : l.getD j d = l[j] := by simp [List.getD_eq_getElem?_getD, hj]
  have e2 : l.getD i d = l[i] := by simp [List.getD_eq_getElem?_getD, hi]
  rw [sw, e1, e2]
  exact List.set_set_perm hi hj
/-- The heap's own way down from i, n of the list counting. -/
def downF (lt : β → β → Bool) (d : β) (n : Nat) : Nat → Nat → List β → List β
  | 0, _, l => l
  | f + 1, i, l =>
    if 2 * i + 1 < n then
      let j := if 2 * i + 2 < n ∧ lt (l.getD (2 * i + 2) d) (l.getD (2 * i + 1) d) = true then 2 * i + 2 else 2 * i + 1
      if lt (l.getD j d) (l.getD i d) = true then downF lt d n f j (sw d l i j) else l
    else l
/-- Order, of those of which Q is true. -/
structure LtOk (lt : β → β → Bool) (Q : β → Prop) : Prop where
  asym : ∀ a b, Q a → Q b → lt a b = true → lt b a = false
  trans : ∀ a b c, Q a → Q b → Q c → lt b a = false → lt c b = false → lt c a = false
/-- From k on no child is less than its parent, but at i. -/
def HeapBut (lt : β → β → Bool) (d : β) (n k i : Nat) (l : List β) : Prop :=
  ∀ p, k ≤ p → p ≠ i → ∀ c, (c = 2 * p + 1 ∨ c = 2 * p + 2) → c < n → lt (l.getD c d) (l.getD p d) = false
def Heap (lt : β → β → Bool) (d : β) (n k : Nat) (l : List β) : Prop :=
  ∀ p, k ≤ p → ∀ c, (c = 2 * p + 1 ∨ c = 2 * p + 2) → c < n → lt (l.getD c d) (l.getD p d) = false
theorem downF_length (lt : β → β → Bool) (d : β) (n : Nat) : ∀ f i l, (downF lt d n f i l).length = l.length := by
  intro f
  induction f with
  | zero => intro i l; rfl
  | succ f ih =>
    intro i l
    rw [downF]
    split
    · dsimp only
      generalize (if 2 * i + 2 < n ∧ lt (l.getD (2 * i + 2) d) (l.getD (2 * i + 1) d) = true then 2 * i + 2 else 2 * i + 1) = j
      split
      · rw [ih, sw_length]
      · rfl
    · rfl
theorem downF_ok {lt : β → β → Bool} {Q : β → Prop} (hlt : LtOk lt Q) (d : β) (n k : Nat) : ∀ f i l, n ≤ l.length → (∀ m, m < n → Q (l.getD m d)) → k ≤ i → n ≤ i + f → i < n → HeapBut lt d n k i l →
    (∀ p, k ≤ p → (i = 2 * p + 1 ∨ i = 2 * p + 2) → ∀ c, (c = 2 * i + 1 ∨ c = 2 * i + 2) → c < n → lt (l.getD c d) (l.getD p d) = false) →
    (downF lt d n f i l).Perm l ∧ Heap lt d n k (downF lt d n f i l) ∧ ∀ m, n ≤ m → (downF lt d n f i l).getD m d = l.getD m d := by
  intro f
  induction f with
  | zero => intro i l _ _ _ h1 h2; omega
  | succ f ih =>
    intro i l hn hq hk hf hi hb hg
    rw [downF]
    by_cases h1 : 2 * i + 1 < n
    · rw [if_pos h1]
      obtain ⟨j, hj⟩ : ∃ j, (if 2 * i + 2 < n ∧ lt (l.getD (2 * i + 2) d) (l.getD (2 * i + 1) d) = true then 2 * i + 2 else 2 * i + 1) = j := ⟨_, rfl⟩
      dsimp only
      rw [hj]
      have hj2 : (j = 2 * i + 1 ∨ j = 2 * i + 2) ∧ j < n ∧ ∀ c, (c = 2 * i + 1 ∨ c = 2 * i + 2) → c < n → lt (l.getD c d) (l.getD j d) = false := by
        split at hj
        · rename_i h
          subst hj
          refine ⟨.inr rfl, h.1, fun c hc hcn => ?_⟩
          rcases hc with rfl | rfl
          · exact hlt.asym _ _ (hq _ (by omega)) (hq _ (by omega)) h.2
          · cases hx : lt (l.getD (2 * i + 2) d) (l.getD (2 * i + 2) d) with
            | false => rfl
            | true => have := hlt.asym _ _ (hq _ (by omega)) (hq _ (by omega)) hx; rw [hx] at this; cases this
        · rename_i h
          subst hj
          refine ⟨.inl rfl, h1, fun c hc hcn => ?_⟩
          rcases hc with rfl | rfl
          · cases hx : lt (l.getD (2 * i + 1) d) (l.getD (2 * i + 1) d) with
            | false => rfl
            | true => have := hlt.asym _ _ (hq _ (by omega)) (hq _ (by omega)) hx; rw [hx] at this; cases this
          · cases hx : lt (l.getD (2 * i + 2) d) (l.getD (2 * i + 1) d) with
            | false => rfl
            | true => exact absurd ⟨hcn, hx⟩ h
      obtain ⟨hjc, hjn, hjm⟩ := hj2
      by_cases h2 : lt (l.getD j d) (l.getD i d) = true
      · rw [if_pos h2]
        have hil : i < l.length := by omega
        have hjl : j < l.length := by omega
        have hget := fun m => sw_get d l i j m hil hjl
        have hji : i ≠ j := by omega
        obtain ⟨r1, r2, r3⟩ := ih j (sw d l i j) (by rw [sw_length]; exact hn) (fun m hm => by
            rw [hget m]
            by_cases e1 : m = j
            · rw [if_pos e1]; exact hq i hi
            · rw [if_neg e1]
              by_cases e2 : m = i
              · rw [if_pos e2]; exact hq j hjn
              · rw [if_neg e2]; exact hq m hm) (by omega) (by omega) hjn (fun p hp hpj c hc hcn => by
            rw [hget c, hget p, if_neg hpj]
            by_cases hpi : p = i
            · subst hpi
              rw [if_pos rfl]
              by_cases hcj : c = j
              · rw [if_pos hcj]; exact hlt.asym _ _ (hq _ hjn) (hq _ hi) h2
              · rw [if_neg hcj, if_neg (by omega)]
                exact hjm c hc hcn
            · rw [if_neg hpi]
              by_cases hcj : c = j
              · exact absurd hcj (by omega)
              · rw [if_neg hcj]
                by_cases hci : c = i
                · rw [if_pos hci]
                  exact hg p hp (by omega) j hjc hjn
                · rw [if_neg hci]
                  exact hb p hp hpi c hc hcn) (fun p hp hpc c hc hcn => by
            have hpi : p = i := by omega
            subst hpi
            rw [hget c, hget p, if_neg (by omega), if_neg hji, if_pos rfl, if_neg (by omega)]
            exact hb j (by omega) (by omega) c hc hcn)
        refine ⟨r1.trans (sw_perm d l i j hil hjl), r2, fun m hm => ?_⟩
        rw [r3 m hm, hget m, if_neg (by omega), if_neg (by omega)]
      · rw [if_neg h2]
        refine ⟨.refl _, fun p hp c hc hcn => ?_, fun m _ => rfl⟩
        by_cases hpi : p = i
        · subst hpi
          have hx : lt (l.getD j d) (l.getD p d) = false := by simpa using h2
          exact hlt.trans _ _ _ (hq _ (by omega)) (hq _ (by omega)) (hq _ (by omega)) hx (hjm c hc hcn)
        · exact hb p hp hpi c hc hcn
    · rw [if_neg h1]
      refine ⟨.refl _, fun p hp c hc hcn => ?_, fun m _ => rfl⟩
      by_cases hpi : p = i
      · subst hpi; omega
      · exact hb p hp hpi c hc hcn
theorem getD_all {Q : β → Prop} {d : β} {n : Nat} {l : List β} (hn : n = l.length) (h : ∀ x ∈ l, Q x) : ∀ m, m < n → Q (l.getD m d) := fun m hm => by
  rw [List.getD_eq_getElem?_getD, List.getElem?_eq_getElem (by omega)]; exact h _ (List.getElem_mem _)
/-- A heap made: from the last parent to the first. -/
def initF (lt : β → β → Bool) (d : β) (n : Nat) : Nat → List β → List β
  | 0, l => l
  | i + 1, l => initF lt d n i (downF lt d n (n + 1) i l)
theorem initF_ok {lt : β → β → Bool} {Q : β → Prop} (hlt : LtOk lt Q) (d : β) (n : Nat) : ∀ k l, n = l.length → (∀ x ∈ l, Q x) → k ≤ n → Heap lt d n k l → (initF lt d n k l).Perm l ∧ Heap lt d n 0 (initF lt d n k l) := by
  intro k
  induction k with
  | zero => intro l _ _ _ h; exact ⟨.refl _, h⟩
  | succ k ih =>
    intro l hn hQ hk h
    obtain ⟨r1, r2, _⟩ := downF_ok hlt d n k (n + 1) k l (by omega) (getD_all hn hQ) (Nat.le_refl _) (by omega) (by omega) (fun p hp hpk => h p (by omega)) (fun p hp hpc => by omega)
    obtain ⟨s1, s2⟩ := ih (downF lt d n (n + 1) k l) (by rw [downF_length]; exact hn) (fun x hx => hQ x (r1.mem_iff.1 hx)) (by omega) r2
    exact ⟨s1.trans r1, s2⟩
theorem heap_half (lt : β → β → Bool) (d : β) (n : Nat) (l : List β) : Heap lt d n (n / 2) l := fun p hp c hc hcn => by omega
/-- The first one of a heap is the least. -/
theorem heap_min {lt : β → β → Bool} {Q : β → Prop} (hlt : LtOk lt Q) (d : β) (n : Nat) (l : List β) (hq : ∀ m, m < n → Q (l.getD m d)) (h : Heap lt d n 0 l) : ∀ m, m < n → lt (l.getD m d) (l.getD 0 d) = false := by
  intro m
  induction m using Nat.strongRecOn with
  | ind m ih =>
    intro hm
    by_cases h0 : m = 0
    · subst h0
      cases hx : lt (l.getD 0 d) (l.getD 0 d) with
      | false => rfl
      | true => have := hlt.asym _ _ (hq _ (by omega)) (hq _ (by omega)) hx; rw [hx] at this; cases this
    · have hp := h ((m - 1) / 2) (Nat.zero_le _) m (by omega) hm
      have hp2 := ih ((m - 1) / 2) (by omega) (by omega)
      exact hlt.trans _ _ _ (hq _ (by omega)) (hq _ (by omega)) (hq _ (by omega)) hp2 hp
end P1
end Go.Proofs.YtbjeejimedhniaaGreatDoor
