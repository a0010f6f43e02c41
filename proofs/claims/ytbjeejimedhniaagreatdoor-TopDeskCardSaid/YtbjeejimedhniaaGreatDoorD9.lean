/- Contracts of the program's functions, as the walks of the law use them. -/
import Derived.Test.YtbjeejimedhniaaGreatDoorD7
import Derived.Test.YtbjeejimedhniaaGreatDoorD3
import Derived.Test.YtbjeejimedhniaaGreatDoorD1
import Derived.Deep.RegionLaw
import Derived.Test.YtbjeejimedhniaaGreatDoorD8
set_option linter.unusedVariables false
set_option linter.unusedSimpArgs false
set_option maxRecDepth 100000
set_option maxHeartbeats 2000000
namespace Go.Proofs.YtbjeejimedhniaaGreatDoor
namespace K12
open Go Go.RowKit
open KB KB2 K1 K2 K3
open K9 (cloneV cloneR elVal elRow)
theorem elVals : El Tryz.prog 40 33 rdVal.sz 24 := El.mk (z := .agg #[.int .i64 0, .string ⟨#[]⟩]) Tryz.underlying40 (by kernel_rfl) rfl (by decide)
theorem elRows : El Tryz.prog 51 42 rdRows.sz 24 := El.mk (z := .slice none 0 0) Tryz.underlying51 (by kernel_rfl) rfl (by decide)
abbrev v0 : Val := (0, ⟨#[]⟩)
def col (k : Nat) (rows : List Row) : List Val := rows.map fun r => r.getD k v0
theorem columnC (F : Nat → Prop) (A : Option Addr) (c : Nat) (rows : List Row) (at_ : Nat) (w : World) (hA : rdRow.Sl F w A c rows) (hk : ∀ r ∈ rows, at_ < r.length) (hn : rows.length ≤ 1000000) (hF : ∀ k, F k → k < w.heap.size) :
   Calls Tryz.prog 231 #[.slice A rows.length c, .int .i64 at_] w fun e w' => ∃ A' c', e = .returned (.slice A' (col at_ rows).length c') ∧ rdVal.Sl F w' A' c' (col at_ rows) ∧ Ext w w' := by
 go_enter Tryz.func231, Tryz.ntmps231
 go_wp2_with (fail)
 go_loopw [5, 10] (fun v i wr => ∃ k : Nat, i = .int .i64 k ∧ k ≤ rows.length ∧ rdVal.Own F w.heap.size 33 wr v (col at_ (rows.take k)) ∧ Ext w wr) (fun _ i _ => rows.length - (intOf i).toNat)
 case atStart => exact ⟨0, by go_num, Nat.zero_le _, Rd.Own.nil _ _ _ _ _, Ext.refl _⟩
 case round =>
   obtain ⟨k, rfl, hkl, hown, hE⟩ := hrel
   have hcl : (col at_ (rows.take k)).length ≤ 1000000 := by rw [col, List.length_map, List.length_take]; omega
   by_cases hlt : k < rows.length
   · obtain ⟨b, o, A2, c2, rfl, hc, hr⟩ := sl_get (hA.ext hE) hlt
     have hk2 : at_ < rows[k].length := hk _ (List.getElem_mem _)
     obtain ⟨b2, o2, rfl, hv1, hv2⟩ := val_get hr hk2
     have h0 : decide ((at_ : Int) < 0) = false := by simp
     have hst : col at_ (rows.take (k + 1)) = col at_ (rows.take k) ++ [rows[k][at_]] := by rw [take_snoc _ hlt, col, List.map_append]; simp [col, List.getD, hk2]
     have HST := As.mk hst
     clear hst
     go_wp2_with (first | (at_builtin; refine wpList_push rfl _ _ _ rfl rdVal elVals rfl (hown.ext ((Ext.refl wr).alloc _)) rfl (heap_alloc_new _ _) (y := rows[k][at_]) rfl (by omega) (by unfold maxLen; omega) (by have := hE.size; simp; omega) (hE.alloc _) ?_; intro v' w1 hown1 hg1 hE1))
     go_roundw
     case rel => exact ⟨k + 1, by go_num, by omega, by rw [HST.out]; exact hown1, hE1⟩
     case measure => simp [intOf] <;> omega
   · obtain rfl : k = rows.length := by omega
     rw [List.take_length] at hown
     obtain ⟨A', c', rfl, hs⟩ := hown.shut hF
     go_wp2
     go_ret
     exact ⟨A', c', rfl, hs, hE⟩
def chunksF (g : Nat) : Nat → List Row → List (List Row)
 | 0, _ => []
 | n + 1, l => if l = [] then [] else l.take g :: chunksF g n (l.drop g)
def chunks (g : Nat) (l : List Row) : List (List Row) := chunksF g l.length l
theorem chunksF_more (g : Nat) (hg : 1 ≤ g) : ∀ (n m : Nat) (l : List Row), l.length ≤ n → l.length ≤ m → chunksF g n l = chunksF g m l := by
 intro n
 induction n with
 | zero =>
   intro m l h1 h2
   obtain rfl : l = [] := List.eq_nil_of_length_eq_zero (by omega)
   cases m <;> simp [chunksF]
 | succ n ih =>
   intro m l h1 h2
   cases m with
   | zero =>
     obtain rfl : l = [] := List.eq_nil_of_length_eq_zero (by omega)
     simp [chunksF]
   | succ m =>
     rw [chunksF, chunksF]
     by_cases hl : l = []
     · rw [if_pos hl, if_pos hl]
     · have hp : 0 < l.length := List.length_pos_iff.2 hl
       rw [if_neg hl, if_neg hl, ih m (l.drop g) (by rw [List.length_drop]; omega) (by rw [List.length_drop]; omega)]
theorem chunks_nil (g : Nat) : chunks g [] = [] := rfl
theorem chunks_step (g : Nat) (hg : 1 ≤ g) {l : List Row} (hl : l ≠ []) : chunks g l = l.take g :: chunks g (l.drop g) := by
 have hp : 0 < l.length := List.length_pos_iff.2 hl
 unfold chunks
 rw [show l.length = (l.length - 1) + 1 by omega, chunksF, if_neg hl]
 rw [chunksF_more g hg (l.length - 1) (l.drop g).length (l.drop g) (by rw [List.length_drop]; omega) (Nat.le_refl _)]
theorem chunks_length (g : Nat) (hg : 1 ≤ g) (n : Nat) : ∀ l : List Row, l.length ≤ n → (chunks g l).length ≤ l.length := by
 induction n with
 | zero => intro l h; obtain rfl : l = [] := List.eq_nil_of_length_eq_zero (by omega); simp [chunks_nil]
 | succ n ih =>
   intro l h
   by_cases hl : l = []
   · subst hl; simp [chunks_nil]
   · have hp : 0 < l.length := List.length_pos_iff.2 hl
     have := ih (l.drop g) (by rw [List.length_drop]; omega)
     rw [List.length_drop] at this
     rw [chunks_step g hg hl, List.length_cons]
     omega
theorem splitC (F : Nat → Prop) (A : Option Addr) (c : Nat) (s : Sch) (Al : Option Addr) (cl : Nat) (l : List Row) (w : World) (hs : s.Ok) (hl : rdRow.Sl F w Al cl l) (hn : l.length ≤ 1000000) (hF : ∀ k, F k → k < w.heap.size) :
   Calls Tryz.prog 130 #[schV A c s, .slice Al l.length cl] w fun e w' => ∃ A' c', e = .returned (.slice A' (chunks s.grain l).length c') ∧ rdRows.Sl F w' A' c' (chunks s.grain l) ∧ Ext w w' := by
 have hg1 := hs.g1
 have hg2 := hs.g2
 have hcl := hl.le
 have HCL := As.mk (chunks_length s.grain hg1 l.length l (Nat.le_refl _))
 have hbx := bN w (.cells #[.slice A s.types.length c, .int .i64 s.keys, .int .i64 s.mode, .int .i64 s.grain] 27)
 have hEb := (Ext.refl w).alloc (.cells #[.slice A s.types.length c, .int .i64 s.keys, .int .i64 s.mode, .int .i64 s.grain] 27)
 have hlb := hl.ext hEb
 go_enter Tryz.func130, Tryz.ntmps130
 go_wp2_with (fail)
 generalize (w.alloc (.cells #[.slice A s.types.length c, .int .i64 s.keys, .int .i64 s.mode, .int .i64 s.grain] 27)) = wb at *
 go_loopw [5, 6, 7] (fun v i _ wr => ∃ (k : Nat) (M : List (List Row)), i = .int .i64 k ∧ k ≤ 2000000 ∧ As (chunks s.grain l = M ++ chunks s.grain (l.drop k)) ∧ rdRows.Own F wb.heap.size 42 wr v M ∧ Ext wb wr) (fun _ i _ _ => l.length - (intOf i).toNat)
 case atStart => exact ⟨0, [], by go_num, by omega, ⟨rfl⟩, Rd.Own.nil _ _ _ _ _, Ext.refl _⟩
 case round =>
   obtain ⟨k, M, rfl, hk2, hM, hown, hE⟩ := hrel
   have c3 := bC (hE.blk hbx) 3
   by_cases hlt : k < l.length
   · have hne : l.drop k ≠ [] := fun h => by have := congrArg List.length h; rw [List.length_drop] at this; simp at this; omega
     have hst := hM.out
     rw [chunks_step _ hg1 hne, List.drop_drop] at hst
     have hml := congrArg List.length hst
     rw [List.length_append, List.length_cons] at hml
     have hM1 : M.length ≤ 1000000 := by have := HCL.out; omega
     have HM := As.mk hst
     clear hst hml
     obtain ⟨j, hj, hkj, hJ, htk⟩ : ∃ j : Nat, j ≤ l.length ∧ k < j ∧ min ((k : Int) + (s.grain : Int)) (l.length : Int) = (j : Int) ∧ (l.take j).drop k = (l.drop k).take s.grain := by
       by_cases hge : k + s.grain ≤ l.length
       · exact ⟨k + s.grain, hge, by omega, by omega, by rw [List.drop_take]; congr 1; omega⟩
       · refine ⟨l.length, Nat.le_refl _, hlt, by omega, ?_⟩
         rw [List.take_length, List.take_of_length_le (by rw [List.length_drop]; omega)]
     obtain ⟨A1, hsl, hS⟩ := cut3 (Far (by decide) hlb hE hown.ge) elRow k j j (j - k) (j - k) k (j : Int) (j : Int) (by omega) hj (Nat.le_refl _) (by omega) rfl rfl rfl rfl rfl
     have hgl : j - k = ((l.take j).drop k).length := by rw [List.length_drop, List.length_take]; omega
     rw [htk] at hS hgl
     have HGL := As.mk hgl
     clear htk hgl
     go_wp2_with (first | (at_builtin; refine wpList_push rfl _ _ _ rfl rdRows elRows rfl (hown.ext ((Ext.refl wr).alloc _)) rfl (heap_alloc_new _ _) (y := (l.drop k).take s.grain) (sl_Cn (hS.ext ((Ext.refl wr).alloc _)) HGL.out) (by omega) (by unfold maxLen; omega) (by have := hE.size; simp; omega) (hE.alloc _) ?_; intro v' w1 hown1 hg1 hE1; have c31 := bC (Ext.blk hE1 hbx) 3))
     go_roundw
     case rel => exact ⟨k + s.grain, _, by go_num, by omega, ⟨by rw [HM.out]; simp⟩, hown1, hE1⟩
     case measure => simp [intOf] <;> omega
   · have h0 : l.drop k = [] := List.drop_of_length_le (by omega)
     have hM2 := hM.out
     rw [h0, chunks_nil, List.append_nil] at hM2
     obtain ⟨A', c', rfl, hs'⟩ := hown.shut (FExt hF hEb)
     have HM2 := As.mk hM2
     clear hM2
     go_wp2
     go_ret
     exact ⟨A', c', by rw [HM2.out]; rfl, by rw [HM2.out]; exact hs', hEb.trans hE⟩
theorem keyC (F : Nat → Prop) (A : Option Addr) (c : Nat) (s : Sch) (Ar : Option Addr) (cr : Nat) (r : Row) (w : World) (hs : s.keys ≤ r.length) (hr : rdVal.Sl F w Ar cr r) (hn : r.length ≤ 1000000) (hF : ∀ k, F k → k < w.heap.size) :
   Calls Tryz.prog 242 #[schV A c s, .slice Ar r.length cr] w fun e w' => ∃ A' c', e = .returned (.slice A' (r.take s.keys).length c') ∧ rdVal.Sl F w' A' c' (r.take s.keys) ∧ Ext w w' := by
 have hEb := (Ext.refl w).alloc (.cells #[.slice A s.types.length c, .int .i64 s.keys, .int .i64 s.mode, .int .i64 s.grain] 27)
 have hbx := bN w (.cells #[.slice A s.types.length c, .int .i64 s.keys, .int .i64 s.mode, .int .i64 s.grain] 27)
 have c1 := bC hbx 1
 have hrb := (hr.pre s.keys).ext hEb
 have hkl : (r.take s.keys).length = s.keys := by rw [List.length_take]; omega
 have hmx := hr.max
 have hle := hr.le
 have HKL := As.mk hkl
 go_enter Tryz.func242, Tryz.ntmps242
 have hcl := cloneV F Ar cr (r.take s.keys) _ hrb (by have := HKL.out; omega) (FExt hF hEb)
 rw [HKL.out] at hcl
 go_wp2_with (fail)
 refine hcl.mono ?_
 rintro e w1 ⟨A', c', rfl, hs1, hE1⟩
 go_wp2
 go_ret
 exact ⟨A', c', by rw [HKL.out]; rfl, hs1, hEb.trans hE1⟩
def marks (s : Sch) (l : List Row) : List Row := (chunks s.grain l).map fun g => (g.headD []).take s.keys
theorem chunks_pos (g : Nat) (hg : 1 ≤ g) : ∀ (n : Nat) (l : List Row), l.length ≤ n → ∀ c ∈ chunks g l, 0 < c.length ∧ ∀ r ∈ c, r ∈ l := by
 intro n
 induction n with
 | zero => intro l h; obtain rfl : l = [] := List.eq_nil_of_length_eq_zero (by omega); simp [chunks_nil]
 | succ n ih =>
   intro l h c hc
   by_cases hl : l = []
   · subst hl; simp [chunks_nil] at hc
   · have hp : 0 < l.length := List.length_pos_iff.2 hl
     rw [chunks_step g hg hl] at hc
     rcases List.mem_cons.1 hc with rfl | hc
     · exact ⟨by rw [List.length_take]; omega, fun r hr => List.mem_of_mem_take hr⟩
     · obtain ⟨h1, h2⟩ := ih (l.drop g) (by rw [List.length_drop]; omega) c hc
       exact ⟨h1, fun r hr => List.mem_of_mem_drop (h2 r hr)⟩
theorem marksC (F : Nat → Prop) (A : Option Addr) (c : Nat) (s : Sch) (Al : Option Addr) (cl : Nat) (l : List Row) (w : World) (hs : s.Ok) (hl : rdRow.Sl F w Al cl l) (hr : ∀ r ∈ l, s.keys ≤ r.length ∧ r.length ≤ 1000) (hn : l.length ≤ 1000000) (hF : ∀ k, F k → k < w.heap.size) :
   Calls Tryz.prog 134 #[schV A c s, .slice Al l.length cl] w fun e w' => ∃ A' c', e = .returned (.slice A' (marks s l).length c') ∧ rdRow.Sl F w' A' c' (marks s l) ∧ Ext w w' := by
 have hg1 := hs.g1
 have HCL := As.mk (chunks_length s.grain hg1 l.length l (Nat.le_refl _))
 have HCP := As.mk (chunks_pos s.grain hg1 l.length l (Nat.le_refl _))
 have hbx := bN w (.cells #[.slice A s.types.length c, .int .i64 s.keys, .int .i64 s.mode, .int .i64 s.grain] 27)
 have hEb := (Ext.refl w).alloc (.cells #[.slice A s.types.length c, .int .i64 s.keys, .int .i64 s.mode, .int .i64 s.grain] 27)
 have hlb := hl.ext hEb
 have hFb := FExt hF hEb
 go_enter Tryz.func134, Tryz.ntmps134
 go_wp2_with (fail)
 generalize (w.alloc (.cells #[.slice A s.types.length c, .int .i64 s.keys, .int .i64 s.mode, .int .i64 s.grain] 27)) = wb at *
 refine (splitC F A c s Al cl l wb hs hlb hn hFb).mono ?_
 rintro e w0 ⟨Ac, cc, rfl, hcs, hE0⟩
 generalize hC : chunks s.grain l = C at *
 have hbx0 := hE0.blk hbx
 have hF0 := FExt hFb hE0
 go_wp2_with (fail)
 go_loopw [5, 7, 12] (fun v _ i wr => ∃ k : Nat, i = .int .i64 k ∧ k ≤ C.length ∧ rdRow.Own F w0.heap.size 41 wr v ((marks s l).take k) ∧ Ext w0 wr) (fun _ _ i _ => C.length - (intOf i).toNat)
 case atStart => exact ⟨0, by go_num, Nat.zero_le _, Rd.Own.nil _ _ _ _ _, Ext.refl _⟩
 case round =>
   obtain ⟨k, rfl, hkl, hown, hE⟩ := hrel
   by_cases hlt : k < C.length
   · obtain ⟨b, o, A2, c2, rfl, hc, hcr⟩ := sl_get (far0 rdRows (by decide) hcs hown.ge) hlt
     obtain ⟨hp, hmem⟩ := HCP.out C[k] (by simp)
     obtain ⟨b2, o2, A3, c3, rfl, hc2, hrr⟩ := sl_get hcr hp
     rw [Nat.add_zero] at hc2
     replace hc := hE.cell hc
     obtain ⟨hk1, hk2⟩ := hr _ (hmem _ (List.getElem_mem hp))
     have hml : (marks s l).length = C.length := by rw [marks, hC, List.length_map]
     have hmk : (marks s l)[k]'(by omega) = (C[k][0]).take s.keys := by
       have h0 : ∀ g : List Row, (h : 0 < g.length) → g.headD [] = g[0] := fun g h => by cases g with | nil => cases h | cons a g => rfl
       simp only [marks, hC, List.getElem_map, h0 _ hp]
     have hst := take_snoc (marks s l) (k := k) (by omega)
     rw [hmk] at hst
     have HST := As.mk hst
     have HKL : As (s.keys = ((C[k][0]).take s.keys).length) := ⟨by rw [List.length_take]; omega⟩
     have hml2 : ((marks s l).take k).length = k := by rw [List.length_take]; omega
     have HML := As.mk hml2
     have hCl : C.length ≤ 1000000 := by have := HCL.out; omega
     clear hst hmk hml hml2 hmem hC
     have hF1 := FvF hown (FExt hF0 hE)
     have keep : ∀ w', Ext w0 w' → Ext w0 w' ∧ w'.cell? ⟨w.heap.size, 0, none⟩ = some (.slice A s.types.length c) ∧ w'.cell? ⟨w.heap.size, 1, none⟩ = some (.int .i64 s.keys) ∧ w'.cell? ⟨w.heap.size, 2, none⟩ = some (.int .i64 s.mode) ∧ w'.cell? ⟨w.heap.size, 3, none⟩ = some (.int .i64 s.grain) ∧ w'.cell? ⟨b2, o2, none⟩ = some (.slice A3 (C[k][0]).length c3) := fun w' h => ⟨h, h.cell (bC hbx0 0), h.cell (bC hbx0 1), h.cell (bC hbx0 2), h.cell (bC hbx0 3), h.cell hc2⟩
     obtain ⟨_, f0, f1, f2, f3, f4⟩ := keep wr hE
     go_wp2_with (fail)
     go_region_held3 (fun w' => Ext w0 w' ∧ w'.cell? ⟨w.heap.size, 0, none⟩ = some (.slice A s.types.length c) ∧ w'.cell? ⟨w.heap.size, 1, none⟩ = some (.int .i64 s.keys) ∧ w'.cell? ⟨w.heap.size, 2, none⟩ = some (.int .i64 s.mode) ∧ w'.cell? ⟨w.heap.size, 3, none⟩ = some (.int .i64 s.grain) ∧ w'.cell? ⟨b2, o2, none⟩ = some (.slice A3 (C[k][0]).length c3)) (((try dsimp only); refine keep _ ?_; first | with_reducible assumption | exact XE)) (first | (go_at_call 242; refine (keyC (Fv F u5) A c s A3 c3 _ _ hk1 (hrr.ext XE) (by omega) (FExt hF1 XE)).mono ?_; rintro e w1 ⟨A4, c4, rfl, hs4, hE4⟩; have hE5 : Ext wr w1 := Ext.trans XE hE4; have hE6 := hE.trans hE5) | (refine step_push rfl (.tmp 16) (.tmp 22) 42 rfl rdRow elRow (v := u5) (by rfl) (hown.ext (hE5.trans XE)) (by rfl) (by exact heap_alloc_new w1 _) (y := (C[k][0]).take s.keys) (sl_Cn (hs4.ext XE) (by first | exact HKL.out | rfl)) (by have := HML.out; omega) (by have := HML.out; unfold maxLen; omega) (hE6.trans XE) ?_; intro v' w2 hown2 hg2 hE2))
     rw [← HST.out] at hown2
     go_wp2
     go_roundw
     case rel => exact ⟨k + 1, by go_num, by omega, hown2, hE2⟩
     case measure => simp [intOf] <;> omega
   · have hml : (marks s l).length = C.length := by rw [marks, hC, List.length_map]
     obtain rfl : k = C.length := by omega
     rw [List.take_of_length_le (by omega)] at hown
     obtain ⟨A', c', rfl, hs'⟩ := hown.shut hF0
     go_wp2
     go_ret
     exact ⟨A', c', rfl, hs', hEb.trans (hE0.trans hE)⟩
end K12
namespace K13
open Go Go.RowKit
open KB KB2 K1 K2 K3 K12
open K9 (cloneV cloneR elVal elRow)
def part (n : Nat) (cols : List Row) (j i : Nat) : List Row := (List.range n).map fun r => (cols.take j).map (fun c => c.getD r v0) ++ (if r < i then [(cols.getD j []).getD r v0] else [])
def rowsOf (n : Nat) (cols : List Row) : List Row := (List.range n).map fun r => cols.map (fun c => c.getD r v0)
theorem part_zero (n : Nat) (cols : List Row) : part n cols 0 0 = List.replicate n [] := by
 simp only [part, List.take_zero, List.map_nil, List.nil_append, Nat.not_lt_zero, if_false]
 exact List.eq_replicate_iff.2 ⟨by simp, fun b hb => by simp at hb; exact hb.2.symm ▸ rfl⟩
theorem part_next (n : Nat) (cols : List Row) (j : Nat) (hj : j < cols.length) : part n cols j n = part n cols (j + 1) 0 := by
 simp only [part]
 apply List.map_congr_left
 intro r hr
 rw [if_pos (List.mem_range.1 hr), if_neg (Nat.not_lt_zero _), take_snoc _ hj, List.map_append, List.append_nil]
 simp [List.getD, hj]
theorem part_all (n : Nat) (cols : List Row) : part n cols cols.length 0 = rowsOf n cols := by
 simp [part, rowsOf]
theorem part_length (n : Nat) (cols : List Row) (j i : Nat) : (part n cols j i).length = n := by simp [part]
theorem part_at (n : Nat) (cols : List Row) (j i : Nat) (hi : i < n) : (part n cols j i).getD i [] = (cols.take j).map (fun c => c.getD i v0) := by
 simp [part, List.getD, hi]
theorem part_step (n : Nat) (cols : List Row) (j i : Nat) (hi : i < n) (hj : j < cols.length) (hc : i < cols[j].length) : part n cols j (i + 1) = (part n cols j i).set i ((part n cols j i).getD i [] ++ [cols[j][i]]) := by
 rw [part_at n cols j i hi]
 apply List.ext_getElem?
 intro r
 by_cases hr : r < n
 · by_cases hri : i = r
   · subst hri
     rw [List.getElem?_set_self (by rw [part_length]; exact hi)]
     simp [part, hi, List.getD, hj, hc]
   · rw [List.getElem?_set_ne hri]
     simp only [part, List.getElem?_map, List.getElem?_range hr, Option.map_some]
     by_cases h : r < i
     · rw [if_pos h, if_pos (by omega)]
     · rw [if_neg h, if_neg (by omega)]
 · rw [List.getElem?_eq_none (by rw [part_length]; omega), List.getElem?_eq_none (by rw [List.length_set, part_length]; omega)]
theorem rowsC (F : Nat → Prop) (A : Option Addr) (c : Nat) (cols : List Row) (n : Nat) (w : World) (hA : rdRow.Sl F w A c cols) (hn : n ≤ 1000) (h1 : 1 ≤ cols.length) (h2 : cols.length ≤ 1000) (hl : ∀ c ∈ cols, c.length = n) (hF : ∀ k, F k → k < w.heap.size) :
   Calls Tryz.prog 320 #[.slice A cols.length c] w fun e w' => ∃ A' c', e = .returned (.tuple #[.slice A' n c', .bool true]) ∧ rdRow.Sl F w' A' c' (rowsOf n cols) ∧ Ext w w' := by
 obtain ⟨b, o, A0, c0, rfl, hc0, hr0⟩ := sl_get hA (k := 0) (by omega)
 have hl0 : cols[0].length = n := hl _ (List.getElem_mem _)
 rw [hl0, Nat.add_zero] at hc0
 go_enter Tryz.func320, Tryz.ntmps320
 go_wp2_with (at_make; refine wpList_makeN rfl (.tmp 15) (.tmp 15) 42 rfl rdRaw (F := fun _ => False) (B := w.heap.size) elRow rfl rfl rfl (n := n) (by omega) (by decide) (Nat.le_refl _) _ rfl (z0 := .slice none 0 0) (by kernel_rfl) (fun _ _ => ⟨rfl, rfl⟩) ?_; intro w1 hown1 hzs1 hE1 hw1)
 have hG0 : Grid w.heap.size 41 33 w1 w.heap.size (List.replicate n (.slice none 0 0)) (part n cols 0 0) := by
   refine ⟨Nat.le_refl _, by rw [List.length_replicate]; exact hown1, by rw [part_length, List.length_replicate], fun r v hv => ?_, fun r v hv => ?_, fun r q v u k _ hv _ hk => ?_⟩ <;> (rw [List.getElem?_replicate] at hv; split at hv <;> first | (cases hv; done) | skip) <;> cases hv
   · rw [part_zero, List.getD_eq_getElem?_getD, List.getElem?_replicate, if_pos (by assumption)]
     exact Rd.Own.nil _ _ _ _ _
   · intro h; cases h
   · cases hk
 go_loopw [19] (fun i wr => ∃ (j : Nat) (vs : List Value), i = .int .i64 j ∧ j ≤ cols.length ∧ vs.length = n ∧ Grid w.heap.size 41 33 wr w.heap.size vs (part n cols j 0) ∧ Ext w wr) (fun i _ => cols.length - (intOf i).toNat)
 case atStart => exact ⟨0, _, by go_num, Nat.zero_le _, List.length_replicate .., hG0, hE1⟩
 case round =>
   obtain ⟨j, vs, rfl, hjl, hvl, hG, hE⟩ := hrel
   by_cases hlt : j < cols.length
   · obtain ⟨b', o', A1, c1, hbo, hc1, hr1⟩ := sl_get hA hlt
     obtain ⟨rfl, rfl⟩ : b = b' ∧ o = o' := by cases hbo; exact ⟨rfl, rfl⟩
     clear hbo
     have hlj : cols[j].length = n := hl _ (List.getElem_mem _)
     rw [hlj] at hc1
     replace hc1 := hE.cell hc1
     go_wp2_with (fail)
     go_loopw [30] (fun i wr2 => ∃ (i' : Nat) (vs : List Value), i = .int .i64 i' ∧ i' ≤ n ∧ vs.length = n ∧ Grid w.heap.size 41 33 wr2 w.heap.size vs (part n cols j i') ∧ Ext w wr2) (fun i _ => n - (intOf i).toNat)
     case atStart => exact ⟨0, vs, by go_num, Nat.zero_le _, hvl, hG, hE⟩
     case round =>
       obtain ⟨i, vs, rfl, hil, hvl, hG, hE⟩ := hrel
       by_cases hin : i < n
       · obtain ⟨b1, o1, rfl, hv1, hv2⟩ := val_get (hr1.ext hE) (k := i) (by omega)
         go_wp2_with (fail)
         have hE2 : Ext wr (wr.alloc (.cells #[.int .i64 cols[j][i].1, .string cols[j][i].2] 33)) := (Ext.refl wr).alloc _
         have hb2 := bN wr (.cells #[.int .i64 cols[j][i].1, .string cols[j][i].2] 33)
         generalize (wr.alloc (.cells #[.int .i64 cols[j][i].1, .string cols[j][i].2] 33)) = w2 at *
         have hiv : i < vs.length := by omega
         have hG2 := hG.ext hE2
         obtain ⟨u, hu, hfz, hC, _⟩ := Rd.Own.get1 rfl hG2.arr hiv
         simp only [List.cons.injEq, and_true] at hC
         subst hC
         have hvi := List.getElem?_eq_getElem hiv
         have hown := hG2.own i _ hvi
         have hne := hG2.ne i _ hvi
         have hgl : w.heap.size < w2.heap.size := (hG2.arr.ge _ rfl).2
         have hpl : ((part n cols j i).getD i []).length ≤ 1000 := by rw [part_at n cols j i hin, List.length_map, List.length_take]; omega
         have HST := As.mk (part_step n cols j i hin hlt (by omega))
         generalize hV : vs[i] = V at *
         generalize hL : (part n cols j i).getD i [] = L at *
         have HV := As.mk hvi
         clear hvi hV hL
         have b0 := bC hb2 0
         have b1 := bC hb2 1
         have i1 : (0 : Int) ≤ (i : Int) := by omega
         have i2 : (i : Int) < (n : Int) := by omega
         go_region_law (refine step_pushAt rfl (.tmp 40) (.tmp 42) 41 rfl rdVal elVal (v := V) (by rfl) (hown.ext XE) (by rfl) (by exact heap_alloc_new w2 _) (y := cols[j][i]) rfl (by omega) (by unfold maxLen; omega) (by simp; omega) ?_; intro v' w3 hown3 hg3 hat3; obtain ⟨A3, c3, rfl, _⟩ := hown3.shut (fun _ h => h.elim); have ha3 := hG2.arr.free rawFree (w' := w3) (G := fun _ => False) (fun k hk => by cases hk; rw [hg3.block _ (by simp; omega) (fun e => hne e.symm)]; exact Ext.block ((Ext.refl w2).alloc _) hgl); obtain ⟨_, hc3, hf3, _⟩ := Rd.Own.get1 rfl ha3 hiv)
         all_goals
           have hG3 := fun h : Grid w.heap.size 41 33 _ w.heap.size vs (part n cols j i) => Grid.set h HV.out hg3 hat3 hown3 rfl
           replace hG3 := hG3 (hG2.ext XE)
           have hE3 := fun h => Ext.setCell (w := w) (a := ⟨w.heap.size, i, none⟩) (Ext.grown h hg3 (fun k hk => (hown.ge k hk).1)) (Nat.le_refl _) (.slice A3 (L ++ [cols[j][i]]).length c3)
           replace hE3 := hE3 (Ext.trans (hE.trans hE2) XE)
           rw [← HST.out] at hG3
           have hLL : (L ++ [cols[j][i]]).length = L.length + 1 := by simp
           rw [hLL] at hG3 hE3
           (try simp only [Exit.inBlock, Exit.then])
           go_wp2
           go_roundw
           case rel => exact ⟨i + 1, _, by go_num, by omega, by rw [List.length_set]; exact hvl, hG3, hE3⟩
           case measure => simp [intOf]; omega
       · obtain rfl : i = n := by omega
         rw [part_next _ cols j hlt] at hG
         go_wp2
         go_roundw
         case rel => exact ⟨j + 1, vs, by go_num, by omega, hvl, hG, hE⟩
         case measure => simp [intOf]; omega
   · obtain rfl : j = cols.length := by omega
     rw [part_all] at hG
     go_wp2
     go_ret2
     exact ⟨_, _, rfl, hG.shut hF (by unfold maxLen; omega) hvl.symm, hE⟩
end K13
namespace K16
open Go Go.RowKit
open KB KB2 K1 K2 K3 K6 K7 K8 K9 K12 K13 K14 K15 Num
def Fit (ts : List Int) (r : Row) : Prop := ∀ (k : Nat) t, ts[k]? = some t → k < r.length ∧ ValOk t (r.getD k v0)
def colsB (l : List Row) : Nat → List Int → List Int
 | _, [] => []
 | k, t :: ts => putB t (col k l) ++ colsB l (k + 1) ts
theorem col_length (k : Nat) (l : List Row) : (col k l).length = l.length := List.length_map _
theorem colsB_length (l : List Row) (hl : l.length ≤ 100000) : ∀ (ts : List Int) (k : Nat), (colsB l k ts).length ≤ ts.length * (8 * l.length + 26) := by
 intro ts
 induction ts with
 | nil => intro k; simp [colsB]
 | cons t ts ih =>
   intro k
   have h1 := putB_length t (col k l) (by rw [col_length]; exact hl)
   rw [col_length] at h1
   have h2 := ih (k + 1)
   rw [colsB, List.length_append, List.length_cons, Nat.succ_mul]
   omega
theorem columnsC (F : Nat → Prop) (A Al : Option Addr) (c cl : Nat) (ts : List Int) (l : List Row) (w : World) (hA : (rdInt .i64).Sl F w A c ts) (hl : rdRow.Sl F w Al cl l) (ht : ∀ t ∈ ts, Col t) (hr : ∀ r ∈ l, Fit ts r) (hn : ts.length ≤ 64) (hn2 : l.length ≤ 2000) (hF : ∀ k, F k → k < w.heap.size) :
   Calls Tryz.prog 131 #[.slice A ts.length c, .slice Al l.length cl] w fun e w' => ∃ A' c', e = .returned (.slice A' (colsB l 0 ts).length c') ∧ rdU8.Sl F w' A' c' (colsB l 0 ts) ∧ Ext w w' := by
 have hcb := colsB_length l (by omega) ts 0
 have hcb2 : (colsB l 0 ts).length ≤ 1100000 := Nat.le_trans hcb (Nat.le_trans (Nat.mul_le_mul hn (show 8 * l.length + 26 ≤ 16026 by omega)) (by decide))
 have HCB := As.mk hcb2
 clear hcb hcb2
 go_enter Tryz.func131, Tryz.ntmps131
 go_wp2_with (fail)
 go_loopw [5, 12] (fun v i wr => ∃ (k : Nat) (M : List Int), i = .int .i64 k ∧ k ≤ ts.length ∧ As (colsB l 0 ts = M ++ colsB l k (ts.drop k)) ∧ rdU8.Own F w.heap.size 5 wr v M ∧ Ext w wr) (fun _ i _ => ts.length - (intOf i).toNat)
 case atStart => exact ⟨0, [], by go_num, Nat.zero_le _, ⟨rfl⟩, Rd.Own.nil _ _ _ _ _, Ext.refl _⟩
 case round =>
   obtain ⟨k, M, rfl, hkl, hM, hown, hE⟩ := hrel
   by_cases hlt : k < ts.length
   · obtain ⟨b, o, rfl, hc⟩ := int_get (hA.ext hE) hlt
     have hm := hM.out
     rw [List.drop_eq_getElem_cons hlt, colsB] at hm
     have hml := congrArg List.length hm
     rw [List.length_append, List.length_append] at hml
     have hcb := HCB.out
     have hpl : M.length + (putB ts[k] (col k l)).length ≤ 1100000 := by omega
     have HM := As.mk hm
     have HPL := As.mk hpl
     clear hm hml hpl hcb
     have hfit : ∀ r ∈ l, k < r.length ∧ ValOk ts[k] (r.getD k v0) := fun r h => hr r h k ts[k] (List.getElem?_eq_getElem hlt)
     have hFv := FvF hown (FExt hF hE)
     have hlf := Far (by decide) hl hE hown.ge
     go_wp2_with (fail)
     refine (columnC (Fv F u5) Al cl l k wr hlf (fun r h => (hfit r h).1) (by omega) hFv).mono ?_
     rintro e w1 ⟨A1, c1, rfl, hs1, hE1⟩
     have hpb := putBC (Fv F u5) ts[k] (ht _ (List.getElem_mem hlt)) A1 c1 (col k l) w1 hs1 (by rw [col_length]; exact hn2) (fun v hv => by obtain ⟨r, hr', rfl⟩ := List.mem_map.1 hv; exact (hfit r hr').2) (FExt hFv hE1)
     go_wp2_with (fail)
     refine hpb.mono ?_
     rintro e w2 ⟨A2, c2, rfl, hs2, hE2⟩
     have hE3 := hE1.trans hE2
     go_wp2_with (first | (at_builtin; refine wpList_app rfl _ _ _ rfl rdU8 elU8 rfl (hown.ext hE3) rfl rfl hs2 (by have := HPL.out; omega) (by have := HPL.out; unfold maxLen; omega) (hE.trans hE3).size (hE.trans hE3) ?_; intro v' w3 hown3 hg3 hE4))
     go_roundw
     case rel => exact ⟨k + 1, _, by go_num, by omega, ⟨by rw [HM.out, List.append_assoc]⟩, hown3, hE4⟩
     case measure => simp [intOf] <;> omega
   · obtain rfl : k = ts.length := by omega
     have hm := hM.out
     rw [List.drop_length, colsB, List.append_nil] at hm
     obtain ⟨A', c', rfl, hs⟩ := hown.shut hF
     have HM := As.mk hm
     clear hm
     go_wp2
     go_ret
     exact ⟨A', c', by rw [HM.out]; rfl, by rw [HM.out]; exact hs, hE⟩
end K16
namespace K17
open Go Go.RowKit
open KB KB2 K1 K2 K3 K5 K6 K7 K8 K9 K12 K13 K14 K15 K16 Num
def granB (ts : List Int) (C : List (List Row)) : List Int := (C.map fun g => colsB g 0 ts).flatten
def places (n : Nat) (ts : List Int) : List (List Row) → List Val
 | [] => []
 | g :: C => ((n : Int), emp) :: places (n + (colsB g 0 ts).length) ts C
theorem granB_nil (ts : List Int) : granB ts [] = [] := rfl
theorem granB_snoc (ts : List Int) (C : List (List Row)) (g : List Row) : granB ts (C ++ [g]) = granB ts C ++ colsB g 0 ts := by simp [granB]
theorem granB_cons (ts : List Int) (C : List (List Row)) (g : List Row) : granB ts (g :: C) = colsB g 0 ts ++ granB ts C := by simp [granB]
theorem places_snoc (ts : List Int) (g : List Row) : ∀ (C : List (List Row)) (n : Nat), places n ts (C ++ [g]) = places n ts C ++ [(((n + (granB ts C).length : Nat) : Int), emp)] := by
 intro C
 induction C with
 | nil => intro n; simp [places, granB]
 | cons h C ih => intro n; rw [List.cons_append, places, ih, places, granB_cons, List.length_append, Nat.add_assoc]; rfl
theorem places_length (ts : List Int) : ∀ (C : List (List Row)) (n : Nat), (places n ts C).length = C.length := by
 intro C
 induction C with
 | nil => intro n; rfl
 | cons h C ih => intro n; rw [places, List.length_cons, ih, List.length_cons]
theorem places_mem (ts : List Int) : ∀ (C : List (List Row)) (n : Nat), ∀ v ∈ places n ts C, v.2 = emp ∧ 0 ≤ v.1 ∧ v.1 ≤ ((n + (granB ts C).length : Nat) : Int) := by
 intro C
 induction C with
 | nil => intro n v hv; cases hv
 | cons g C ih =>
   intro n v hv
   rw [granB_cons, List.length_append]
   rcases List.mem_cons.1 hv with rfl | hv
   · exact ⟨rfl, by omega, by simp; omega⟩
   · obtain ⟨h1, h2, h3⟩ := ih _ v hv
     exact ⟨h1, h2, by omega⟩
def head (s : Sch) : List Int := frame (putSch s)
def body (s : Sch) (l : List Row) : List Int := head s ++ granB s.types (chunks s.grain l)
def tailB (s : Sch) (l : List Row) : List Int := colsB (marks s l) 0 (s.types.take s.keys) ++ putB 2 (places (head s).length s.types (chunks s.grain l))
def partB (s : Sch) (l : List Row) : List Int := body s l ++ (tailB s l ++ le8 (body s l).length)
structure PartOk (s : Sch) (l : List Row) : Prop where
 sch : s.Ok
 col : ∀ t ∈ s.types, Col t
 n1 : 1 ≤ l.length
 n2 : l.length ≤ 2000
 rows : ∀ r ∈ l, RowOk s r
 ord : InOrder (cmpS s) l
 small : (partB s l).length ≤ 1000000
theorem fitR {s : Sch} {r : Row} (h : RowOk s r) : Fit s.types r := by
 intro k t hk
 obtain ⟨h1, rfl⟩ := List.getElem?_eq_some_iff.1 hk
 have h2 : k < r.length := by rw [h.len]; exact h1
 refine ⟨h2, ?_⟩
 rw [List.getD_eq_getElem?_getD, List.getElem?_eq_getElem h2]
 exact h.val k h1 h2
theorem fitKey {s : Sch} {r : Row} (h : RowOk s r) : Fit (s.types.take s.keys) (r.take s.keys) := by
 intro k t hk
 rw [List.getElem?_take] at hk
 split at hk
 · obtain ⟨h1, h2⟩ := fitR h k t hk
   refine ⟨by rw [List.length_take]; omega, ?_⟩
   rw [List.getD_eq_getElem?_getD, List.getElem?_take, if_pos (by assumption), ← List.getD_eq_getElem?_getD]
   exact h2
 · cases hk
theorem chunks_le (g : Nat) (hg : 1 ≤ g) : ∀ (n : Nat) (l : List Row), l.length ≤ n → ∀ c ∈ chunks g l, c.length ≤ l.length := by
 intro n
 induction n with
 | zero => intro l h; obtain rfl : l = [] := List.eq_nil_of_length_eq_zero (by omega); simp [chunks_nil]
 | succ n ih =>
   intro l h c hc
   by_cases hl : l = []
   · subst hl; simp [chunks_nil] at hc
   · have hp : 0 < l.length := List.length_pos_iff.2 hl
     rw [chunks_step g hg hl] at hc
     rcases List.mem_cons.1 hc with rfl | hc
     · rw [List.length_take]; omega
     · have := ih (l.drop g) (by rw [List.length_drop]; omega) c hc
       rw [List.length_drop] at this; omega
theorem marks_mem {s : Sch} {l : List Row} (hg : 1 ≤ s.grain) : ∀ m ∈ marks s l, ∃ r ∈ l, m = r.take s.keys := by
 intro m hm
 obtain ⟨g, hgm, rfl⟩ := List.mem_map.1 hm
 obtain ⟨h1, h2⟩ := chunks_pos s.grain hg l.length l (Nat.le_refl _) g hgm
 cases g with
 | nil => cases h1
 | cons r g => exact ⟨r, h2 r (List.mem_cons_self ..), rfl⟩
def Two (F : Nat → Prop) (v p : Value) : Nat → Prop := fun k => F k ∨ v.ownBlock = some k ∨ p.ownBlock = some k
theorem two_grow {α : Type} {R : Rd α} (hsz : 0 < R.sz) {F : Nat → Prop} {v p v' : Value} {w w' : World} {A : Option Addr} {c : Nat} {l : List α} (h : R.Sl (Two F v p) w A c l) (hg : w.grownBy w' v.ownBlock) (hat : KB2.At' w v v') : R.Sl (Two F v' p) w' A c l := by
 have h1 := h.narrow hsz (G := fun k => F k ∨ v.ownBlock = some k ∨ p.ownBlock = some k ∨ k = w.heap.size) (fun k hk hG => by
   rcases hG with h | h | h | h
   · exact .inl h
   · exact .inr (.inl h)
   · exact .inr (.inr h)
   · omega)
 have h2 := h1.keep (Keep.of_grown hg (fun k hk _ => .inr (.inl hk)))
 refine h2.narrow hsz (fun k hk hG => ?_)
 rcases hG with h | h | h
 · exact .inl h
 · rcases hat with e | e
   · exact .inr (.inl (by rw [← e]; exact h))
   · rw [e] at h; cases h; exact .inr (.inr (.inr rfl))
 · exact .inr (.inr (.inl h))
theorem two_symm {α : Type} {R : Rd α} (hsz : 0 < R.sz) {F : Nat → Prop} {v p : Value} {w : World} {A : Option Addr} {c : Nat} {l : List α} (h : R.Sl (Two F v p) w A c l) : R.Sl (Two F p v) w A c l :=
 h.narrow hsz (fun k _ hG => hG.elim .inl (fun h => .inr h.symm))
theorem two_fst {α : Type} {R : Rd α} (hsz : 0 < R.sz) {F : Nat → Prop} {v p : Value} {w : World} {A : Option Addr} {c : Nat} {l : List α} (h : R.Sl (Two F v p) w A c l) : R.Sl (Fv F v) w A c l :=
 h.narrow hsz (fun k _ hG => hG.elim .inl (fun h => .inr (.inl h)))
theorem writeC (F : Nat → Prop) (A : Option Addr) (c : Nat) (s : Sch) (Al : Option Addr) (cl : Nat) (l : List Row) (w : World) (hA : SchAt F w A c s) (hl : rdRow.Sl F w Al cl l) (ho : PartOk s l) (hF : ∀ k, F k → k < w.heap.size) :
   Calls Tryz.prog 64 #[schV A c s, .slice Al l.length cl] w fun e w' => ∃ A' c', e = .returned (.tuple #[.slice A' (partB s l).length c', .int .i64 0]) ∧ rdU8.Sl F w' A' c' (partB s l) ∧ Ext w w' := by
 have hs := ho.sch
 have hn1 := ho.n1
 have hn2 := ho.n2
 have hs2 := hs.n2
 have hB := SchBox.new hA
 have hEb := (Ext.refl w).alloc (.cells #[.slice A s.types.length c, .int .i64 s.keys, .int .i64 s.mode, .int .i64 s.grain] 27)
 have hFb := FExt hF hEb
 have hlb := hl.ext hEb
 have d0 : ((l.length : Int) == 0) = false := beq_eq_false_iff_ne.mpr (by omega)
 have d1 : decide ((2000 : Int) < (l.length : Int)) = false := decide_eq_false (by omega)
 go_enter Tryz.func64, Tryz.ntmps64
 go_wp2_with (fail)
 generalize (w.alloc (.cells #[.slice A s.types.length c, .int .i64 s.keys, .int .i64 s.mode, .int .i64 s.grain] 27)) = wb at *
 have c0 := bC hB.1 0
 have c1 := bC hB.1 1
 have c2 := bC hB.1 2
 have c3 := bC hB.1 3
 refine (checkC F A c s wb hB.2 hs).mono ?_; rintro e w1 ⟨rfl, hE1⟩
 go_wp2_with (fail)
 refine (hasRow F Al cl l 127 #[.pointer (some ⟨w.heap.size, 0, none⟩)] w1 (hlb.ext hE1) (by omega) (fun _ _ => rfl) (fun W k hk A2 c2 hW hs2 => oddWrite F _ A c s A2 c2 _ W (SchBox.ext hB (hE1.trans hW)) hs2 (ho.rows _ (List.getElem_mem hk)) (by omega))).mono ?_; rintro e w2 ⟨rfl, hE2⟩
 replace hE2 := hE1.trans hE2
 clear c0 c1 c2 c3 hE1
 have c0 := bC (hB.ext hE2).1 0
 have c1 := bC (hB.ext hE2).1 1
 have c2 := bC (hB.ext hE2).1 2
 have c3 := bC (hB.ext hE2).1 3
 go_wp2_with (fail)
 refine (sortedC F A c s Al cl l w2 (hB.ext hE2).2 hs (hlb.ext hE2) ho.rows ho.ord (by omega)).mono ?_; rintro e w3 ⟨rfl, hE3⟩
 replace hE3 := hE2.trans hE3
 clear c0 c1 c2 c3 hE2
 have c0 := bC (hB.ext hE3).1 0
 have c1 := bC (hB.ext hE3).1 1
 have c2 := bC (hB.ext hE3).1 2
 have c3 := bC (hB.ext hE3).1 3
 go_wp2_with (fail)
 refine (putSC F A c s w3 (hB.ext hE3).2 hs (FExt hFb hE3)).mono ?_; rintro e w4 ⟨A4, c4, rfl, hs4, hE4⟩
 replace hE4 := hE3.trans hE4
 have hpl : (putSch s).length ≤ 68 := by rw [putSch, putN_length _ (nums_small hs), nums_length]; omega
 have hhl : (head s).length ≤ 82 := by
   have h1 := pv_le10 (putSch s).length (by omega)
   rw [head, frame_length]; omega
 go_wp2_with (fail)
 refine (frameO F A4 c4 (putSch s) w4 hs4 (by omega) (FExt hFb hE4)).mono ?_; rintro e w5 ⟨v5, rfl, hown5, hE5⟩
 replace hE5 := hE4.trans hE5
 replace hown5 := hown5.lower hE4.size
 clear c0 c1 c2 c3
 have c0 := bC (hB.ext hE5).1 0
 have c1 := bC (hB.ext hE5).1 1
 have c2 := bC (hB.ext hE5).1 2
 have c3 := bC (hB.ext hE5).1 3
 go_wp2_with (fail)
 refine (splitC (Fv F v5) A c s Al cl l w5 hs (Rd.Sl.ext (far0 rdRow (by decide) hlb hown5.ge) hE5) (by omega) (FvF hown5 (FExt hFb hE5))).mono ?_
 rintro e w6 ⟨Ac, cc, rfl, hcs, hE6⟩
 replace hown5 := hown5.ext hE6
 replace hE6 := hE5.trans hE6
 have HCL := As.mk (chunks_length s.grain hs.g1 l.length l (Nat.le_refl _))
 have HCP := As.mk (chunks_pos s.grain hs.g1 l.length l (Nat.le_refl _))
 have HCS := As.mk (chunks_le s.grain hs.g1 l.length l (Nat.le_refl _))
 have HHE : As (head s = frame (putSch s)) := ⟨rfl⟩
 rw [← HHE.out] at hown5
 have HSM := ho.small
 have hbl : (body s l).length ≤ 1000000 := by have := HSM; rw [partB, List.length_append] at this; omega
 have HBL := As.mk hbl
 have HSMA := As.mk HSM
 clear HSM hbl
 have HBD : As (body s l = head s ++ granB s.types (chunks s.grain l)) := ⟨rfl⟩
 generalize hC : chunks s.grain l = C at *
 have HC := As.mk hC
 clear hC
 have hCl : C.length ≤ 2000 := by have := HCL.out; omega
 go_wp2_with (fail)
 go_loopw [7, 8, 44] (fun v p i wr => ∃ k : Nat, i = .int .i64 k ∧ k ≤ C.length ∧ rdU8.Own F wb.heap.size 5 wr v (head s ++ granB s.types (C.take k)) ∧ rdVal.Own F wb.heap.size 33 wr p (places (head s).length s.types (C.take k)) ∧ KB2.Apart v p ∧ rdRows.Sl (Two F v p) wr Ac cc C ∧ Ext wb wr) (fun _ _ i _ => C.length - (intOf i).toNat)
 case atStart => exact ⟨0, by go_num, Nat.zero_le _, by rw [List.take_zero, granB_nil, List.append_nil]; exact hown5, Rd.Own.nil _ _ _ _ _, (fun k _ h => by cases h), hcs.narrow (by decide) (fun k _ hG => by rcases hG with h | h | h; exact .inl h; exact .inr h; cases h), hE6⟩
 case round =>
   obtain ⟨k, rfl, hkl, hv, hp, hap, hcr, hE⟩ := hrel
   by_cases hlt : k < C.length
   · obtain ⟨b, o, A2, c2', rfl, hc, hr⟩ := sl_get hcr hlt
     obtain ⟨hpos, hmem⟩ := HCP.out C[k] (List.getElem_mem hlt)
     have hT := take_snoc C hlt
     have hpl := places_snoc s.types C[k] (C.take k) (head s).length
     rw [← hT] at hpl
     have hgl := granB_snoc s.types (C.take k) C[k]
     rw [← hT] at hgl
     have HPL := As.mk hpl
     have HGL := As.mk hgl
     have HP1 : As ((places (head s).length s.types (C.take k)).length ≤ 2000) := ⟨by rw [places_length, List.length_take]; have := HCL.out; omega⟩
     have HG1 : As ((head s ++ granB s.types (C.take k)).length + (colsB C[k] 0 s.types).length ≤ 1000000) := ⟨by
       have h1 := HBL.out
       rw [HBD.out] at h1
       have h2 : granB s.types C = granB s.types (C.take (k + 1)) ++ granB s.types (C.drop (k + 1)) := by rw [granB, granB, granB, ← List.flatten_append, ← List.map_append, List.take_append_drop]
       rw [h2, hgl] at h1
       simp only [List.length_append] at h1 ⊢
       omega⟩
     clear hpl hgl hT
     obtain ⟨O, hO⟩ : ∃ O, head s ++ granB s.types (C.take k) = O := ⟨_, rfl⟩
     have hOl := congrArg List.length hO
     rw [List.length_append] at hOl
     rw [hO] at hv HG1
     rw [hOl] at HPL
     have HO := As.mk hO
     clear hO hOl
     have k0 := bC (hB.ext hE).1 0
     obtain ⟨Av, cv, hve, _⟩ := hv.shut (F := F) hFb
     subst hve
     go_wp2_with (first | (at_builtin; refine wpList_pushAt (o := ⟨some 53, _, _, _, _, _⟩) rfl _ _ _ rfl rdVal elVal rfl (hp.ext ((Ext.refl wr).alloc _)) rfl (heap_alloc_new _ _) (y := ((O.length : Int), emp)) (by rfl) (by have := HP1.out; omega) (by have := HP1.out; unfold maxLen; omega) (by have := hE.size; simp; omega) ?_; intro p' w7 hown7 hg7 hat7; have hE7 : Ext wb w7 := Ext.grown (hE.alloc _) hg7 (fun k hk => (hp.ge k hk).1); have q0 := bC (hB.ext hE7).1 0))
     have hEa := (Ext.refl wr).alloc (.cells #[.int .i64 O.length, .string emp] 33)
     have hv7 := (hv.ext hEa).other (intFree .u8) hg7 hap.symm
     have hap7 := hap.symm.grow hat7 (fun k hk => Nat.lt_of_lt_of_le (hv.ge k hk).2 hEa.size)
     have hcr7 := two_grow (by decide) (two_symm (by decide) (Rd.Sl.ext hcr hEa)) hg7 hat7
     have hr7 := two_fst (by decide) (two_symm (by decide) (two_grow (by decide) (two_symm (by decide) (Rd.Sl.ext hr hEa)) hg7 hat7))
     rw [← HPL.out] at hown7
     have hcc := columnsC _ A A2 c c2' s.types C[k] w7 (Rd.Sl.ext (far0 (rdInt .i64) (by decide) hB.2 hv.ge) hE7) hr7 ho.col (fun r hr => fitR (ho.rows r (hmem r hr))) (by omega) (Nat.le_trans (HCS.out _ (List.getElem_mem hlt)) hn2) (FvF hv7 (FExt hFb hE7))
     go_wp2_with (fail)
     refine hcc.mono ?_
     rintro e w8 ⟨A8, c8, rfl, hs8, hE8⟩
     have hv8 := hv7.ext hE8
     go_wp2_with (first | (at_builtin; refine wpList_appAt (o := ⟨some 59, _, _, _, _, _⟩) rfl _ _ _ rfl rdU8 elU8 rfl hv8 rfl rfl hs8 (by have := HG1.out; omega) (by have := HG1.out; unfold maxLen; omega) (hE7.trans hE8).size ?_; intro v' w9 hown9 hg9 hat9))
     have hp9 := (hown7.ext hE8).other valFree hg9 hap7.symm
     have hap9 := hap7.symm.grow hat9 (fun k hk => Nat.lt_of_lt_of_le (hown7.ge k hk).2 hE8.size)
     have hcr9 := two_grow (by decide) (two_symm (by decide) (Rd.Sl.ext hcr7 hE8)) hg9 hat9
     have hE9 : Ext wb w9 := Ext.grown (hE7.trans hE8) hg9 (fun k hk => (hv.ge k hk).1)
     go_roundw
     case rel => exact ⟨k + 1, by go_num, by omega, by rw [HGL.out, ← List.append_assoc, HO.out]; exact hown9, hp9, hap9, hcr9, hE9⟩
     case measure => simp [intOf] <;> omega
   · obtain rfl : k = C.length := by omega
     rw [List.take_length, ← HBD.out] at hv
     rw [List.take_length] at hp
     clear c0 c1 c2 c3 hcr hap hE6 hown5 HCS HCP
     obtain ⟨Av, cv, rfl, hsv⟩ := hv.shut hFb
     obtain ⟨Ap, cp, rfl, hsp⟩ := hp.shut hFb
     have hpl : (places (head s).length s.types C).length = C.length := places_length _ _ _
     have hbl := HBL.out
     have hpb := putBC F 2 (.inr rfl) Ap cp (places (head s).length s.types C) wr hsp (by rw [hpl]; omega) (fun v hv => by obtain ⟨q1, q2, q3⟩ := places_mem s.types C (head s).length v hv; rw [← List.length_append, ← HBD.out] at q3; exact ⟨by unfold I64; omega, .inl ⟨.inr rfl, q1⟩⟩) (FExt hFb hE)
     have HPLA := As.mk hpl
     clear hpl
     go_wp2_with (fail)
     refine hpb.mono ?_
     rintro e w7 ⟨A7, c7, rfl, hs7, hE7⟩
     have hsv7 := hsv.ext hE7
     replace hE7 := hE.trans hE7
     go_wp2_with (fail)
     have hB7 := hB.ext hE7
     have hl7 := hlb.ext hE7
     have hF7 := FExt hFb hE7
     have HTK : As ((s.types.take s.keys).length = s.keys) := ⟨by rw [List.length_take]; have := hs.k2; omega⟩
     have hk64 : s.keys ≤ 64 := Nat.le_trans hs.k2 hs.n2
     have HMK := As.mk (marks_mem (s := s) (l := l) hs.g1)
     have HML : As ((marks s l).length ≤ 2000) := ⟨by rw [marks, HC.out, List.length_map]; exact hCl⟩
     have hcm : ∀ W Am cm, Ext w7 W → rdRow.Sl F W Am cm (marks s l) → Calls Tryz.prog 131 #[.slice A s.keys c, .slice Am (marks s l).length cm] W fun e w' => ∃ A' c', e = .returned (.slice A' (colsB (marks s l) 0 (s.types.take s.keys)).length c') ∧ rdU8.Sl F w' A' c' (colsB (marks s l) 0 (s.types.take s.keys)) ∧ Ext W w' := by
       intro W Am cm hW hm
       have := columnsC F A Am c cm (s.types.take s.keys) (marks s l) W ((Rd.Sl.ext hB7.2 hW).pre s.keys) hm (fun t h => ho.col t (List.mem_of_mem_take h)) (fun r h => by obtain ⟨r', h1, rfl⟩ := HMK.out r h; exact fitKey (ho.rows r' h1)) (by rw [HTK.out]; exact hk64) HML.out (FExt hF7 hW)
       rw [HTK.out] at this
       exact this
     have hmk : ∀ r ∈ l, s.keys ≤ r.length ∧ r.length ≤ 1000 := fun r h => by rw [(ho.rows r h).len]; have := hs.k2; omega
     have HL : As ([body s l, colsB (marks s l) 0 (s.types.take s.keys), putB 2 (places (head s).length s.types C), le8 (body s l).length].flatten = partB s l) := ⟨by simp [partB, tailB, HC.out]⟩
     have hkc : (s.keys : Int) ≤ (c : Int) := by have := Rd.Sl.le hB7.2; have := hs.k2; omega
     have hk0 : (0 : Int) ≤ (s.keys : Int) := by omega
     have keep : ∀ w', Ext w7 w' → Ext w7 w' ∧ w'.cell? ⟨w.heap.size, 0, none⟩ = some (.slice A s.types.length c) ∧ w'.cell? ⟨w.heap.size, 1, none⟩ = some (.int .i64 s.keys) ∧ w'.cell? ⟨w.heap.size, 2, none⟩ = some (.int .i64 s.mode) ∧ w'.cell? ⟨w.heap.size, 3, none⟩ = some (.int .i64 s.grain) := fun w' h => ⟨h, h.cell (bC hB7.1 0), h.cell (bC hB7.1 1), h.cell (bC hB7.1 2), h.cell (bC hB7.1 3)⟩
     obtain ⟨_, f0, f1, f2, f3⟩ := keep w7 (Ext.refl w7)
     go_region_held3 (fun w' => Ext w7 w' ∧ w'.cell? ⟨w.heap.size, 0, none⟩ = some (.slice A s.types.length c) ∧ w'.cell? ⟨w.heap.size, 1, none⟩ = some (.int .i64 s.keys) ∧ w'.cell? ⟨w.heap.size, 2, none⟩ = some (.int .i64 s.mode) ∧ w'.cell? ⟨w.heap.size, 3, none⟩ = some (.int .i64 s.grain)) (((try dsimp only); refine keep _ ?_; first | with_reducible assumption | exact XE)) (first | (go_at_call 134; refine (marksC F A c s Al cl l _ hs (hl7.ext XE) hmk (by omega) (FExt hF7 XE)).mono ?_; rintro e wm ⟨Am, cm, rfl, hm, hEm⟩; have hx1 : Ext w7 wm := Ext.trans XE hEm) | (go_at_call 131; refine (hcm _ Am cm XE (hm.ext XE)).mono ?_; rintro e wc ⟨Ac8, cc8, rfl, hcol, hEc⟩; have hx2 : Ext w7 wc := Ext.trans XE hEc) | (go_at_call 135; refine (put64C F (body s l).length (by omega) _ (FExt hF7 XE)).mono ?_; rintro e wp ⟨A9, c9, rfl, h8, hEp⟩; have hcmp := hcol.ext (Ext.trans XE hEp); have hx7p : Ext w7 wp := Ext.trans XE hEp) | (go_at_call 133; refine (concatB F _ _ _ (partB s l) HL.out _ (lit4 (heap_alloc_new _ _) (fun h => Nat.lt_irrefl _ (FExt hF7 hx7p _ h)) ((hsv7.ext hx7p).ext XE) rfl (hcmp.ext XE) rfl ((hs7.ext hx7p).ext XE) rfl (h8.ext XE) rfl) (by simp) (by have := HSMA.out; omega) (FExt hF7 XE)).mono ?_; rintro e wx ⟨A10, c10, rfl, h10, hEx⟩; have hx3 : Ext w7 wx := hx7p.trans (Ext.trans XE hEx)))
     (try simp only [Exit.inBlock, Exit.then])
     go_wp2
     go_ret2
     exact ⟨A10, c10, rfl, h10, hEb.trans (hE7.trans hx3)⟩
end K17
namespace K18
open Go Go.RowKit
open KB KB2 K1 K10 K2 K3 K5 K6 K7 K8 K9 K12 K13 K14 K15 K16 K17 Num
theorem elCols : El Tryz.prog 383 40 rdRow.sz 24 := El.mk (z := .slice none 0 0) Tryz.underlying383 (by kernel_rfl) rfl (by decide)
def colsOf (l : List Row) (m : Nat) : List Row := (List.range m).map fun j => col j l
theorem colsOf_length (l : List Row) (m : Nat) : (colsOf l m).length = m := by simp [colsOf]
theorem colsOf_snoc (l : List Row) (m : Nat) : colsOf l (m + 1) = colsOf l m ++ [col m l] := by simp [colsOf, List.range_succ]
theorem rows_back (l : List Row) (m : Nat) (h : ∀ r ∈ l, r.length = m) : rowsOf l.length (colsOf l m) = l := by
 apply List.ext_getElem (by simp [rowsOf])
 intro i h1 h2
 simp only [rowsOf, colsOf, List.getElem_map, List.getElem_range, List.map_map]
 have hm := h _ (List.getElem_mem h2)
 apply List.ext_getElem (by simp [hm])
 intro j h3 h4
 simp [col, List.getD, h2, h4]
theorem takePC (F : Nat → Prop) (A Ab : Option Addr) (c cb : Nat) (ts : List Int) (l : List Row) (r b : List Int) (hb : b = colsB l 0 ts ++ r) (w : World) (hA : (rdInt .i64).Sl F w A c ts) (hbs : rdU8.Sl F w Ab cb b) (ht : ∀ t ∈ ts, Col t) (hr : ∀ r ∈ l, r.length = ts.length ∧ Fit ts r) (hn1 : 1 ≤ ts.length) (hn : ts.length ≤ 64) (hn2 : l.length ≤ 1000) (hbl : b.length ≤ 1000000) (hF : ∀ k, F k → k < w.heap.size) :
   Calls Tryz.prog 257 #[.slice A ts.length c, .slice Ab b.length cb] w fun e w' => ∃ A' c' A2 c2, e = .returned (.tuple #[.slice A' l.length c', .slice A2 r.length c2, .bool true]) ∧ rdRow.Sl F w' A' c' l ∧ rdU8.Sl F w' A2 c2 r ∧ Ext w w' := by
 have HB := As.mk hb
 have hback := rows_back l ts.length (fun r h => (hr r h).1)
 have HBK := As.mk hback
 clear hb hback
 go_enter Tryz.func257, Tryz.ntmps257
 go_wp2_with (fail)
 go_loopw [1, 7, 17] (fun bv v i wr => ∃ (k : Nat) (Ab : Option Addr) (cb : Nat) (rest : List Int), i = .int .i64 k ∧ k ≤ ts.length ∧ bv = .slice Ab rest.length cb ∧ rdU8.Sl F w Ab cb rest ∧ As (rest = colsB l k (ts.drop k) ++ r) ∧ rest.length ≤ 1000000 ∧ rdRow.Own F w.heap.size 40 wr v (colsOf l k) ∧ Ext w wr) (fun _ _ i _ => ts.length - (intOf i).toNat)
 case atStart => exact ⟨0, Ab, cb, b, by go_num, Nat.zero_le _, rfl, hbs, HB, hbl, Rd.Own.nil _ _ _ _ _, Ext.refl _⟩
 case round =>
   obtain ⟨k, Ab, cb, rest, rfl, hkl, rfl, hR, hrest, hrl, hown, hE⟩ := hrel
   by_cases hlt : k < ts.length
   · obtain ⟨bb, o, rfl, hc⟩ := int_get (hA.ext hE) hlt
     have hr1 := hrest.out
     rw [List.drop_eq_getElem_cons hlt, colsB, List.append_assoc] at hr1
     have hpl : (putB ts[k] (col k l)).length ≤ rest.length := by rw [hr1, List.length_append]; omega
     obtain ⟨A1, hsl1, hS1⟩ := hR.suf elU8 (putB ts[k] (col k l)).length (rest.length - (putB ts[k] (col k l)).length) ((putB ts[k] (col k l)).length : Int) hpl rfl rfl
     have hr2 : rest.drop (putB ts[k] (col k l)).length = colsB l (k + 1) (ts.drop (k + 1)) ++ r := by rw [hr1]; exact List.drop_left' rfl
     have HTL : As ((colsOf l k).length ≤ 64) := ⟨by rw [colsOf_length]; omega⟩
     have HR1 := As.mk hr1
     have HR2 := As.mk hr2
     have HCO := As.mk (colsOf_snoc l k)
     clear hr1 hr2
     have hF1 := FvF hown (FExt hF hE)
     have htb := takeBC (Fv F u7) ts[k] (ht _ (List.getElem_mem hlt)) Ab cb (col k l) _ rest HR1.out wr (Far (by decide) hR hE hown.ge) (by rw [col_length]; omega) (by omega) (fun v hv => by obtain ⟨q, hq, rfl⟩ := List.mem_map.1 hv; exact ((hr q hq).2 k _ (List.getElem?_eq_getElem hlt)).2) hF1
     generalize hZ : (putB ts[k] (col k l)).length = Z at *
     have HZ := As.mk hZ
     clear hZ
     go_wp2_with (fail)
     refine htb.mono ?_; rintro e w1 ⟨A2, c2, rfl, hs2, hE1⟩
     have hown1 := hown.ext hE1
     have hE2 := hE.trans hE1
     have i0 : (0 : Int) ≤ (Z : Int) := by omega
     have i1 : (Z : Int) ≤ (rest.length : Int) := by omega
     go_wp2_with (fail)
     go_region_held3 (fun _ => True) (trivial) ((refine step_push rfl (.tmp 30) (.tmp 32) 383 rfl rdRow elCols (v := u7) (by rfl) (hown1.ext XE) (by rfl) (by exact heap_alloc_new w1 _) (y := col k l) (sl_Cn (hs2.ext XE) rfl) (by have := HTL.out; omega) (by have := HTL.out; unfold maxLen; omega) (hE2.trans XE) ?_; intro v' w2 hown2 hg2 hE3))
     rw [← HCO.out] at hown2
     go_wp2
     go_roundw
     case rel => exact ⟨k + 1, A1, cb - Z, rest.drop Z, by go_num, by omega, by rw [List.length_drop], hS1, HR2, by rw [List.length_drop]; omega, hown2, hE3⟩
     case measure => simp [intOf] <;> omega
   · obtain rfl : k = ts.length := by omega
     have hr1 := hrest.out
     rw [List.drop_length, colsB, List.nil_append] at hr1
     subst hr1
     obtain ⟨A1, c1, rfl, hs1⟩ := hown.shut hF
     have hrw := rowsC F A1 c1 (colsOf l ts.length) l.length wr hs1 hn2 (by rw [colsOf_length]; exact hn1) (by rw [colsOf_length]; omega) (fun c hc => by obtain ⟨j, _, rfl⟩ := List.mem_map.1 hc; exact col_length j l) (FExt hF hE)
     go_wp2_with (fail)
     refine hrw.mono ?_; rintro e w1 ⟨A2, c2, rfl, hs2, hE1⟩
     rw [HBK.out] at hs2
     go_wp2
     go_ret3
     exact ⟨A2, c2, Ab, cb, rfl, hs2, hR.ext (hE.trans hE1), hE.trans hE1⟩
theorem one_grow {α : Type} {R : Rd α} (hsz : 0 < R.sz) {F : Nat → Prop} {v v' : Value} {w w' : World} {A : Option Addr} {c : Nat} {l : List α} (h : R.Sl (Fv F v) w A c l) (hg : w.grownBy w' v.ownBlock) (hat : KB2.At' w v v') : R.Sl (Fv F v') w' A c l := by
 have h1 := h.narrow hsz (G := fun k => F k ∨ v.ownBlock = some k ∨ k = w.heap.size) (fun k hk hG => by
   rcases hG with h | h | h
   · exact .inl h
   · exact .inr h
   · omega)
 have h2 := h1.keep (Keep.of_grown hg (fun k hk _ => .inr (.inl hk)))
 refine h2.narrow hsz (fun k hk hG => ?_)
 rcases hG with h | h
 · exact .inl h
 · rcases hat with e | e
   · exact .inr (.inl (by rw [← e]; exact h))
   · rw [e] at h; cases h; exact .inr (.inr rfl)
theorem putB_pos (t : Int) (l : List Val) : 1 ≤ (putB t l).length := by
 rw [putB, frame_length]; have := pv_pos (t :: putI (l.map (·.1))).length; omega
theorem colsB_pos (l : List Row) (k : Nat) (ts : List Int) (h : 1 ≤ ts.length) : 1 ≤ (colsB l k ts).length := by
 cases ts with
 | nil => simp at h
 | cons t ts => rw [colsB, List.length_append]; have := putB_pos t (col k l); omega
theorem readPC (F : Nat → Prop) (A Ab : Option Addr) (c cb : Nat) (s : Sch) (C : List (List Row)) (r b : List Int) (hb : b = granB s.types C ++ r) (w : World) (hA : SchAt F w A c s) (hbs : rdU8.Sl F w Ab cb b) (hs : s.Ok) (ht : ∀ t ∈ s.types, Col t) (hr : ∀ g ∈ C, g.length ≤ 1000 ∧ ∀ r ∈ g, RowOk s r) (hn : C.flatten.length ≤ 2000) (hbl : b.length ≤ 1000000) (hF : ∀ k, F k → k < w.heap.size) :
   Calls Tryz.prog 161 #[schV A c s, .slice Ab b.length cb, .int .i64 r.length] w fun e w' => ∃ A' c', e = .returned (.tuple #[.slice A' C.flatten.length c', .bool true]) ∧ rdRow.Sl F w' A' c' C.flatten ∧ Ext w w' := by
 have HB := As.mk hb
 have hn1 := hs.n1
 have hn2 := hs.n2
 have hB := SchBox.new hA
 have hEb := (Ext.refl w).alloc (.cells #[.slice A s.types.length c, .int .i64 s.keys, .int .i64 s.mode, .int .i64 s.grain] 27)
 have hFb := FExt hF hEb
 have hbb := hbs.ext hEb
 have HN := As.mk hn
 have HR := As.mk hr
 clear hb hn hr
 go_enter Tryz.func161, Tryz.ntmps161
 go_wp2_with (fail)
 generalize (w.alloc (.cells #[.slice A s.types.length c, .int .i64 s.keys, .int .i64 s.mode, .int .i64 s.grain] 27)) = wb at *
 go_loopw [1, 8] (fun bv v wr => ∃ (k : Nat) (Ab : Option Addr) (cb : Nat) (rest : List Int), k ≤ C.length ∧ bv = .slice Ab rest.length cb ∧ rdU8.Sl (Fv F v) wr Ab cb rest ∧ As (rest = granB s.types (C.drop k) ++ r) ∧ rest.length ≤ 1000000 ∧ rdRow.Own F wb.heap.size 41 wr v (C.take k).flatten ∧ Ext wb wr) (fun bv _ _ => lenOf bv)
 case atStart => exact ⟨0, Ab, cb, b, Nat.zero_le _, rfl, hbb.narrow (by decide) (fun k _ hG => hG.elim id (fun h => by cases h)), HB, hbl, Rd.Own.nil _ _ _ _ _, Ext.refl _⟩
 case round =>
   obtain ⟨k, Ab, cb, rest, hkl, rfl, hR, hrest, hrl, hown, hE⟩ := hrel
   by_cases hlt : k < C.length
   · have hr1 := hrest.out
     rw [List.drop_eq_getElem_cons hlt, granB_cons, List.append_assoc] at hr1
     have hcp := colsB_pos C[k] 0 s.types hn1
     have hrl2 : r.length < rest.length := by rw [hr1]; simp only [List.length_append]; omega
     have hlr : decide ((r.length : Int) < (rest.length : Int)) = true := decide_eq_true (by omega)
     have hT := congrArg List.flatten (take_snoc C hlt)
     rw [List.flatten_append, List.flatten_singleton] at hT
     obtain ⟨M, hM⟩ : ∃ M, (C.take k).flatten = M := ⟨_, rfl⟩
     rw [hM] at hown hT
     have htot : M.length + C[k].length ≤ 2000 := by
       have h1 := HN.out
       have h2 : C.flatten = (C.take (k + 1)).flatten ++ (C.drop (k + 1)).flatten := by rw [← List.flatten_append, List.take_append_drop]
       rw [h2, hT, List.length_append, List.length_append] at h1
       omega
     have HT := As.mk hT
     have HTO := As.mk htot
     obtain ⟨R2, hR2⟩ : ∃ R2, granB s.types (C.drop (k + 1)) ++ r = R2 := ⟨_, rfl⟩
     rw [hR2] at hr1
     have hrr : R2.length ≤ rest.length := by rw [hr1, List.length_append]; omega
     have hrr3 : R2.length < rest.length := by rw [hr1, List.length_append]; omega
     have HR1 := As.mk hr1
     have HR2 := As.mk hR2
     obtain ⟨hg1, hg2⟩ := HR.out C[k] (List.getElem_mem hlt)
     clear hr1 hT hM hR2 hcp
     have d2 : decide ((2000 : Int) < (M.length : Int) + (C[k].length : Int)) = false := decide_eq_false (by have := HTO.out; omega)
     have q0 := bC (hB.ext hE).1 0
     have htk := takePC (Fv F u8) A Ab c cb s.types C[k] R2 rest HR1.out wr (Rd.Sl.ext (far0 (rdInt .i64) (by decide) hB.2 hown.ge) hE) hR ht (fun q hq => ⟨(hg2 q hq).len, fitR (hg2 q hq)⟩) hn1 hn2 hg1 hrl (FvF hown (FExt hFb hE))
     obtain ⟨Av, cv, rfl, _⟩ := hown.shut hFb
     go_wp2_with (fail)
     refine htk.mono ?_; rintro e w1 ⟨A1, c1, A2, c2, rfl, hs1, hs2, hE1⟩
     go_wp2_with (first | (at_builtin; refine wpList_appAt (o := ⟨some 36, _, _, _, _, _⟩) rfl _ _ _ rfl rdRow K9.elRow rfl (hown.ext hE1) rfl rfl hs1 (by have := HTO.out; omega) (by have := HTO.out; unfold maxLen; omega) (hE.trans hE1).size ?_; intro v' w2 hown2 hg2 hat2))
     rw [← HT.out] at hown2
     go_roundw
     case rel => exact ⟨k + 1, A2, c2, R2, by omega, rfl, one_grow (by decide) hs2 hg2 hat2, ⟨HR2.out.symm⟩, by omega, hown2, Ext.grown (hE.trans hE1) hg2 (fun k hk => (hown.ge k hk).1)⟩
     case measure => simp [lenOf]; omega
   · obtain rfl : k = C.length := by omega
     have hr1 := hrest.out
     rw [List.drop_length, granB_nil, List.nil_append] at hr1
     subst hr1
     rw [List.take_length] at hown
     obtain ⟨Av, cv, rfl, hsv⟩ := hown.shut hFb
     have hlr : decide ((rest.length : Int) < (rest.length : Int)) = false := decide_eq_false (by omega)
     go_wp2
     go_ret2
     exact ⟨_, _, rfl, hsv, hEb.trans hE⟩
end K18
end Go.Proofs.YtbjeejimedhniaaGreatDoor
