/- Contracts of the program's functions, as the walks of the law use them. -/
import Derived.Test.YtbjeejimedhniaaGreatDoorD9
set_option linter.unusedVariables false
set_option linter.unusedSimpArgs false
set_option maxRecDepth 100000
set_option maxHeartbeats 2000000
namespace Go.Proofs.YtbjeejimedhniaaGreatDoor
namespace K19
open Go Go.RowKit
open KB KB2 K1 K2 K3 K5 K6 K7 K8 K9 K12 K13 K14 K15 K16 K17 K18 Num
theorem chunks_all (g : Nat) (hg : 1 ≤ g) : ∀ (n : Nat) (l : List Row), l.length ≤ n → (chunks g l).flatten = l ∧ ∀ c ∈ chunks g l, c.length ≤ g := by
 intro n
 induction n with
 | zero => intro l h; obtain rfl : l = [] := List.eq_nil_of_length_eq_zero (by omega); simp [chunks_nil]
 | succ n ih =>
   intro l h
   by_cases hl : l = []
   · subst hl; simp [chunks_nil]
   · have hp : 0 < l.length := List.length_pos_iff.2 hl
     obtain ⟨h1, h2⟩ := ih (l.drop g) (by rw [List.length_drop]; omega)
     rw [chunks_step g hg hl, List.flatten_cons, h1, List.take_append_drop]
     refine ⟨rfl, fun c hc => ?_⟩
     rcases List.mem_cons.1 hc with rfl | hc
     · rw [List.length_take]; omega
     · exact h2 c hc
def PartAt (F : Nat → Prop) (w : World) (g : Nat) (s : Sch) (l : List Row) : Prop := ¬ F g ∧ ∃ A c Ag cg Am cm Ar cr,
 w.heap[g]? = some (.cells #[.slice A s.types.length c, .int .i64 s.keys, .int .i64 s.mode, .int .i64 s.grain, .slice Ag (chunks s.grain l).length cg, .slice Am (marks s l).length cm, .slice Ar l.length cr] 170 (0, 0)) ∧
 SchAt F w A c s ∧ rdRows.Sl F w Ag cg (chunks s.grain l) ∧ rdRow.Sl F w Am cm (marks s l) ∧ rdRow.Sl F w Ar cr l
theorem PartAt.keep {F : Nat → Prop} {w w' : World} {g : Nat} {s : Sch} {l : List Row} (h : PartAt F w g s l) (k : Keep F w w') : PartAt F w' g s l := by
 obtain ⟨hg, A, c, Ag, cg, Am, cm, Ar, cr, hb, h1, h2, h3, h4⟩ := h
 exact ⟨hg, A, c, Ag, cg, Am, cm, Ar, cr, k.blk hg hb, Rd.Sl.keep h1 k, h2.keep k, h3.keep k, h4.keep k⟩
theorem PartAt.ext {F : Nat → Prop} {w w' : World} {g : Nat} {s : Sch} {l : List Row} (h : PartAt F w g s l) (k : Ext w w') : PartAt F w' g s l := h.keep (k.keep F)
theorem openPC (F : Nat → Prop) (A : Option Addr) (c : Nat) (s : Sch) (l : List Row) (b : List Int) (hb : b = partB s l) (w : World) (hA : rdU8.Sl F w A c b) (ho : PartOk s l) (hF : ∀ k, F k → k < w.heap.size) :
   Calls Tryz.prog 77 #[.slice A b.length c] w fun e w' => ∃ g, e = .returned (.tuple #[.pointer (some ⟨g, 0, none⟩), .int .i64 0]) ∧ w.heap.size ≤ g ∧ PartAt F w' g s l ∧ Ext w w' := by
 have hs := ho.sch
 have hbl : b.length ≤ 1000000 := by rw [hb]; exact ho.small
 have h8 : ∀ x, (le8 x).length = 8 := fun _ => rfl
 have hsp : b = body s l ++ (tailB s l ++ le8 (body s l).length) := hb
 have hn8 : b.length = (body s l).length + (tailB s l).length + 8 := by rw [hsp]; simp only [List.length_append, h8]; omega
 have hhd : b = frame (putSch s) ++ (granB s.types (chunks s.grain l) ++ (tailB s l ++ le8 (body s l).length)) := by rw [hsp, body, head, List.append_assoc]
 have hpl : (putSch s).length ≤ 68 := by rw [putSch, putN_length _ (nums_small hs), nums_length]; have := hs.n2; omega
 have hhl : (frame (putSch s)).length ≤ b.length := by rw [hhd, List.length_append]; omega
 have hbd : (body s l).length = (frame (putSch s)).length + (granB s.types (chunks s.grain l)).length := by rw [body, head, List.length_append]
 obtain ⟨A8, hsl8, hS8⟩ := hA.suf elU8 (b.length - 8) 8 ((b.length : Int) - 8) (by omega) (by omega) (by omega)
 obtain ⟨An, hsln, hSn⟩ := hA.suf elU8 (frame (putSch s)).length (b.length - (frame (putSch s)).length) ((frame (putSch s)).length : Int) hhl rfl rfl
 have he8 : b.drop (b.length - 8) = le8 (body s l).length ++ [] := by
   rw [List.append_nil]
   conv => lhs; rw [hsp, ← List.append_assoc]
   exact List.drop_left' (by simp only [List.length_append, h8]; omega)
 have hen : b.drop (frame (putSch s)).length = granB s.types (chunks s.grain l) ++ (tailB s l ++ le8 (body s l).length) := by
   conv => lhs; rw [hhd]
   exact List.drop_left' rfl
 have hd8 : (b.drop (b.length - 8)).length = 8 := by rw [List.length_drop]; omega
 have hdn : (b.drop (frame (putSch s)).length).length = b.length - (frame (putSch s)).length := List.length_drop
 have htl : (tailB s l ++ le8 (body s l).length).length = b.length - (body s l).length := by rw [List.length_append, h8]; omega
 have d8 : decide ((b.length : Int) < 8) = false := decide_eq_false (by omega)
 have hun := fun W hW hF => unframeC F A c (putSch s) _ b hhd W hW (by omega) (by omega) hF
 have HB := As.mk hb
 have H8 := As.mk he8
 have HN := As.mk hen
 have HD8 := As.mk hd8
 have HDN := As.mk hdn
 have HTL := As.mk htl
 obtain ⟨N, hN⟩ : ∃ N, (frame (putSch s)).length = N := ⟨_, rfl⟩
 obtain ⟨Z, hZ⟩ : ∃ Z, (body s l).length = Z := ⟨_, rfl⟩
 have hZb : Z + 8 ≤ b.length := by omega
 have hNb : N ≤ b.length := by omega
 have hwz : IntKind.u64.wrap (b.length : Int) = b.length := by rw [IntKind.wrap_u64]; omega
 have dz : decide ((b.length : Int) < (Z : Int)) = false := decide_eq_false (by omega)
 rw [hN] at hsln
 simp only [hN] at hun
 have HZ := As.mk hZ
 have HNN := As.mk hN
 clear hb hsp hn8 hhd hhl hbd he8 hen hd8 hdn htl hN hZ h8
 go_enter Tryz.func77, Tryz.ntmps77
 go_wp2_with (fail)
 refine (hun w hA hF).mono ?_; rintro e w1 ⟨A1, c1, rfl, hs1, hE1⟩
 go_wp2_with (fail)
 refine (takeSC F A1 c1 s w1 (putSch s) rfl hs1 hs (FExt hF hE1)).mono ?_; rintro e w2 ⟨A2, c2, rfl, hsA, hE2⟩
 replace hE2 := hE1.trans hE2
 go_wp2_with (fail)
 have hB3 := SchBox.new hsA
 have hE3 := hE2.alloc (.cells #[.slice A2 s.types.length c2, .int .i64 s.keys, .int .i64 s.mode, .int .i64 s.grain] 27)
 have hws : w2.heap.size < (w2.alloc (.cells #[.slice A2 s.types.length c2, .int .i64 s.keys, .int .i64 s.mode, .int .i64 s.grain] 27)).heap.size := by simp
 generalize (w2.alloc (.cells #[.slice A2 s.types.length c2, .int .i64 s.keys, .int .i64 s.mode, .int .i64 s.grain] 27)) = w3 at *
 have hg64 := get64C F A8 (c - (b.length - 8)) Z [] (b.drop (b.length - 8)) (by rw [H8.out, HZ.out]) w3 (by omega) (hS8.ext hE3) (by rw [HD8.out]; decide)
 rw [HD8.out] at hg64
 refine hg64.mono ?_; rintro e w4 ⟨rfl, hE4⟩
 replace hB3 := hB3.ext hE4
 replace hE4 := hE3.trans hE4
 go_wp2_with (fail)
 have hCA := As.mk (chunks_all s.grain hs.g1 l.length l (Nat.le_refl _))
 have hCP := As.mk (chunks_pos s.grain hs.g1 l.length l (Nat.le_refl _))
 have hF4 := FExt hF hE4
 have hrd : ∀ W, Ext w4 W → Calls Tryz.prog 161 #[.agg #[.slice A2 s.types.length c2, .int .i64 s.keys, .int .i64 s.mode, .int .i64 s.grain], .slice An (b.length - N) (c - N), .int .i64 ((b.length : Int) - (Z : Int))] W fun e w' => ∃ A' c', e = .returned (.tuple #[.slice A' l.length c', .bool true]) ∧ rdRow.Sl F w' A' c' l ∧ Ext W w' := by
   intro W hW
   have := readPC F A2 An c2 (c - N) s (chunks s.grain l) (tailB s l ++ le8 (body s l).length) (b.drop (frame (putSch s)).length) HN.out W (Rd.Sl.ext hB3.2 hW) (by have := hSn.ext (hE4.trans hW); rw [HNN.out] at this ⊢; exact this) hs ho.col (fun g hg => ⟨Nat.le_trans (hCA.out.2 g hg) (Nat.le_trans hs.g2 (by decide)), fun r hr => ho.rows r ((hCP.out g hg).2 r hr)⟩) (by rw [hCA.out.1]; exact ho.n2) (by rw [HDN.out]; omega) (FExt hF4 hW)
   rw [HDN.out, HTL.out, hCA.out.1, HNN.out, HZ.out, show ((b.length - Z : Nat) : Int) = (b.length : Int) - (Z : Int) by omega] at this
   exact this
 have g0 := bC hB3.1 0
 have g1 := bC hB3.1 1
 have g2 := bC hB3.1 2
 have g3 := bC hB3.1 3
 have hwz2 : IntKind.i64.wrap (Z : Int) = Z := by rw [IntKind.wrap_i64]; omega
 have hwz3 : IntKind.i64.wrap ((b.length : Int) - (Z : Int)) = (b.length : Int) - (Z : Int) := by rw [IntKind.wrap_i64]; omega
 have i0 : (0 : Int) ≤ (N : Int) := by omega
 have i1 : (N : Int) ≤ (b.length : Int) := by omega
 have keep : ∀ w', Ext w4 w' → Ext w4 w' ∧ w'.cell? ⟨w2.heap.size, 0, none⟩ = some (.slice A2 s.types.length c2) ∧ w'.cell? ⟨w2.heap.size, 1, none⟩ = some (.int .i64 s.keys) ∧ w'.cell? ⟨w2.heap.size, 2, none⟩ = some (.int .i64 s.mode) ∧ w'.cell? ⟨w2.heap.size, 3, none⟩ = some (.int .i64 s.grain) := fun w' h => ⟨h, h.cell g0, h.cell g1, h.cell g2, h.cell g3⟩
 go_region_held3 (fun w' => Ext w4 w' ∧ w'.cell? ⟨w2.heap.size, 0, none⟩ = some (.slice A2 s.types.length c2) ∧ w'.cell? ⟨w2.heap.size, 1, none⟩ = some (.int .i64 s.keys) ∧ w'.cell? ⟨w2.heap.size, 2, none⟩ = some (.int .i64 s.mode) ∧ w'.cell? ⟨w2.heap.size, 3, none⟩ = some (.int .i64 s.grain)) (((try dsimp only); refine keep _ ?_; first | with_reducible assumption | exact XE)) (first | (go_at_call 161; refine (hrd _ XE).mono ?_; rintro e w5 ⟨A5, c5, rfl, hs5, hE5⟩; have hx5 : Ext w4 w5 := Ext.trans XE hE5))
 (try simp only [Exit.inBlock, Exit.then])
 have hB5 := hB3.ext hx5
 have hE5' := hE4.trans hx5
 clear g0 g1 g2 g3 keep hrd i0 i1 hwz2 hwz3
 have g0 := bC hB5.1 0
 have g1 := bC hB5.1 1
 have g2 := bC hB5.1 2
 have g3 := bC hB5.1 3
 have hwr := writeC F A2 c2 s A5 c5 l w5 hB5.2 hs5 ho (FExt hF hE5')
 rw [← HB.out] at hwr
 go_wp2_with (fail)
 refine hwr.mono ?_; rintro e w6 ⟨A6, c6, rfl, hs6, hE6⟩
 have hE6' := hE5'.trans hE6
 go_wp2_with (fail)
 refine (bytesEqC F A6 A c6 c b w6 hs6 (hA.ext hE6')).mono ?_; rintro e w' ⟨rfl, rfl⟩
 have hB6 := hB5.ext hE6
 have hs56 := hs5.ext hE6
 clear g0 g1 g2 g3
 have g0 := bC hB6.1 0
 have g1 := bC hB6.1 1
 have g2 := bC hB6.1 2
 have g3 := bC hB6.1 3
 have keep : ∀ w', Ext w6 w' → Ext w6 w' ∧ w'.cell? ⟨w2.heap.size, 0, none⟩ = some (.slice A2 s.types.length c2) ∧ w'.cell? ⟨w2.heap.size, 1, none⟩ = some (.int .i64 s.keys) ∧ w'.cell? ⟨w2.heap.size, 2, none⟩ = some (.int .i64 s.mode) ∧ w'.cell? ⟨w2.heap.size, 3, none⟩ = some (.int .i64 s.grain) := fun w' h => ⟨h, h.cell g0, h.cell g1, h.cell g2, h.cell g3⟩
 have hF6 := FExt hF hE6'
 have hmk : ∀ r ∈ l, s.keys ≤ r.length ∧ r.length ≤ 1000 := fun r h => by rw [(ho.rows r h).len]; have := hs.k2; have := hs.n2; omega
 have hn2 := ho.n2
 go_wp2_with (fail)
 go_region_held3 (fun w' => Ext w6 w' ∧ w'.cell? ⟨w2.heap.size, 0, none⟩ = some (.slice A2 s.types.length c2) ∧ w'.cell? ⟨w2.heap.size, 1, none⟩ = some (.int .i64 s.keys) ∧ w'.cell? ⟨w2.heap.size, 2, none⟩ = some (.int .i64 s.mode) ∧ w'.cell? ⟨w2.heap.size, 3, none⟩ = some (.int .i64 s.grain)) (((try dsimp only); refine keep _ ?_; first | with_reducible assumption | exact XE)) (first | (go_at_call 130; refine (splitC F A2 c2 s A5 c5 l _ hs (hs56.ext XE) (by omega) (FExt hF6 XE)).mono ?_; rintro e w7 ⟨A7, c7, rfl, hs7, hE7⟩; have hx7 : Ext w6 w7 := Ext.trans XE hE7) | (go_at_call 134; refine (marksC F A2 c2 s A5 c5 l _ hs (hs56.ext XE) hmk (by omega) (FExt hF6 XE)).mono ?_; rintro e w8 ⟨A9, c9, rfl, hs9, hE8⟩; have hx8 : Ext w7 w8 := Ext.trans XE hE8; have hx68 := hx7.trans hx8))
 (try simp only [Exit.inBlock, Exit.then])
 have hEa := (Ext.refl w8).alloc (.cells #[.slice A2 s.types.length c2, .int .i64 s.keys, .int .i64 s.mode, .int .i64 s.grain, .slice A7 (chunks s.grain l).length c7, .slice A9 (marks s l).length c9, .slice A5 l.length c5] 170)
 have hE8w := hE6'.trans hx68
 have hbn := bN w8 (.cells #[.slice A2 s.types.length c2, .int .i64 s.keys, .int .i64 s.mode, .int .i64 s.grain, .slice A7 (chunks s.grain l).length c7, .slice A9 (marks s l).length c9, .slice A5 l.length c5] 170)
 go_wp2
 go_ret2
 exact ⟨w8.heap.size, rfl, hE8w.size, ⟨fun h => Nat.lt_irrefl _ (FExt hF hE8w _ h), A2, c2, A7, c7, A9, c9, A5, c5, hbn, Rd.Sl.ext hB6.2 (hx68.trans hEa), hs7.ext (hx8.trans hEa), hs9.ext hEa, hs56.ext (hx68.trans hEa)⟩, hE8w.trans hEa⟩
end K19
namespace K20
open Go Go.RowKit
open KB KB2 K1 K2 K3 K9 K12 K17 K19
theorem copiedC (F : Nat → Prop) (A : Option Addr) (c : Nat) (l : List Row) (w : World) (hA : rdRow.Sl F w A c l) (hn : l.length ≤ 1000000) (hr : ∀ r ∈ l, r.length ≤ 1000) (hF : ∀ k, F k → k < w.heap.size) :
   Calls Tryz.prog 163 #[.slice A l.length c] w fun e w' => ∃ A' c', e = .returned (.slice A' l.length c') ∧ rdRow.Sl F w' A' c' l ∧ Ext w w' := by
 go_enter Tryz.func163, Tryz.ntmps163
 go_wp2_with (fail)
 go_loopw [3, 8] (fun v i wr => ∃ k : Nat, i = .int .i64 k ∧ k ≤ l.length ∧ rdRow.Own F w.heap.size 41 wr v (l.take k) ∧ Ext w wr) (fun _ i _ => l.length - (intOf i).toNat)
 case atStart => exact ⟨0, by go_num, Nat.zero_le _, Rd.Own.nil _ _ _ _ _, Ext.refl _⟩
 case round =>
   obtain ⟨k, rfl, hkl, hown, hE⟩ := hrel
   by_cases hlt : k < l.length
   · obtain ⟨b, o, A2, c2, rfl, hc, hcr⟩ := sl_get (far0 rdRow (by decide) hA hown.ge) hlt
     replace hc := hE.cell hc
     have HT := As.mk (take_snoc l hlt)
     have HTL : As ((l.take k).length ≤ 1000000) := ⟨by rw [List.length_take]; omega⟩
     go_wp2_with (fail)
     refine (cloneV (Fv F u3) A2 c2 l[k] wr (hcr.ext hE) (by have := hr _ (List.getElem_mem hlt); omega) (FvF hown (FExt hF hE))).mono ?_; rintro e w1 ⟨A3, c3, rfl, hs3, hE1⟩
     go_wp2_with (first | (at_builtin; refine wpList_push rfl _ _ _ rfl rdRow elRow rfl (hown.ext (hE1.alloc _)) rfl (heap_alloc_new w1 _) (y := l[k]) (sl_Cn (hs3.ext ((Ext.refl w1).alloc _)) rfl) (by have := HTL.out; omega) (by have := HTL.out; unfold maxLen; omega) (by have := (hE.trans hE1).size; simp; omega) ((hE.trans hE1).alloc _) ?_; intro v' w2 hown2 hg2 hE2))
     rw [← HT.out] at hown2
     go_roundw
     case rel => exact ⟨k + 1, by go_num, by omega, hown2, hE2⟩
     case measure => simp [intOf] <;> omega
   · obtain rfl : k = l.length := by omega
     rw [List.take_length] at hown
     obtain ⟨A', c', rfl, hs⟩ := hown.shut hF
     go_wp2
     go_ret
     exact ⟨A', c', rfl, hs, hE⟩
section
variable (F : Nat → Prop) (g : Nat) (s : Sch) (l : List Row) (w : World)
theorem rowsPC (h : PartAt F w g s l) : Calls Tryz.prog 58 #[.pointer (some ⟨g, 0, none⟩)] w fun e w' => e = .returned (.int .i64 l.length) ∧ w = w' := by
 obtain ⟨hg, A, c, Ag, cg, Am, cm, Ar, cr, hb, h1, h2, h3, h4⟩ := h
 have c6 := bC hb 6
 go_enter Tryz.func58, Tryz.ntmps58
 go_wp2
 go_ret
 simp
theorem granulesC (h : PartAt F w g s l) : Calls Tryz.prog 287 #[.pointer (some ⟨g, 0, none⟩)] w fun e w' => e = .returned (.int .i64 (chunks s.grain l).length) ∧ w = w' := by
 obtain ⟨hg, A, c, Ag, cg, Am, cm, Ar, cr, hb, h1, h2, h3, h4⟩ := h
 have c4 := bC hb 4
 go_enter Tryz.func287, Tryz.ntmps287
 go_wp2
 go_ret
 simp
theorem allC (h : PartAt F w g s l) (hn : l.length ≤ 1000000) (hr : ∀ r ∈ l, r.length ≤ 1000) (hF : ∀ k, F k → k < w.heap.size) : Calls Tryz.prog 79 #[.pointer (some ⟨g, 0, none⟩)] w fun e w' => ∃ A' c', e = .returned (.slice A' l.length c') ∧ rdRow.Sl F w' A' c' l ∧ Ext w w' := by
 obtain ⟨hg, A, c, Ag, cg, Am, cm, Ar, cr, hb, h1, h2, h3, h4⟩ := h
 have c6 := bC hb 6
 go_enter Tryz.func79, Tryz.ntmps79
 go_wp2_with (fail)
 refine (copiedC F Ar cr l w h4 hn hr hF).mono ?_; rintro e w1 ⟨A', c', rfl, hs, hE⟩
 go_wp2
 go_ret
 exact ⟨A', c', rfl, hs, hE⟩
theorem thereC (h : PartAt F w g s l) (k : Nat) (hk : k < (chunks s.grain l).length) : Calls Tryz.prog 289 #[.pointer (some ⟨g, 0, none⟩), .int .i64 k] w fun e w' => e = .returned (.bool true) ∧ w = w' := by
 obtain ⟨hg, A, c, Ag, cg, Am, cm, Ar, cr, hb, h1, h2, h3, h4⟩ := h
 have c4 := bC hb 4
 have d0 : decide ((0 : Int) ≤ (k : Int)) = true := decide_eq_true (by omega)
 have d1 : decide ((k : Int) < ((chunks s.grain l).length : Int)) = true := decide_eq_true (by omega)
 go_enter Tryz.func289, Tryz.ntmps289
 go_wp2
 go_ret
 simp
theorem markC (h : PartAt F w g s l) (k : Nat) (hk : k < (marks s l).length) (hr : ∀ r ∈ marks s l, r.length ≤ 1000) (hF : ∀ k, F k → k < w.heap.size) : Calls Tryz.prog 288 #[.pointer (some ⟨g, 0, none⟩), .int .i64 k] w fun e w' => ∃ A' c', e = .returned (.tuple #[.slice A' ((marks s l)[k]).length c', .bool true]) ∧ rdVal.Sl F w' A' c' (marks s l)[k] ∧ Ext w w' := by
 have hth := thereC F g s l w h k (by have : (marks s l).length = (chunks s.grain l).length := by rw [marks, List.length_map]
                                      omega)
 obtain ⟨hg, A, c, Ag, cg, Am, cm, Ar, cr, hb, h1, h2, h3, h4⟩ := h
 have c5 := bC hb 5
 obtain ⟨b, o, A2, c2, rfl, hc, hcr⟩ := sl_get h3 hk
 have hcl := cloneV F A2 c2 (marks s l)[k] w hcr (by have := hr _ (List.getElem_mem hk); omega) hF
 generalize marks s l = M at *
 go_enter Tryz.func288, Tryz.ntmps288
 go_wp2_with (fail)
 refine hth.mono ?_; rintro e w' ⟨rfl, rfl⟩
 go_wp2_with (fail)
 refine hcl.mono ?_; rintro e w1 ⟨A', c', rfl, hs, hE⟩
 go_wp2
 go_ret2
 exact ⟨A', c', rfl, hs, hE⟩
theorem granuleC (h : PartAt F w g s l) (k : Nat) (hk : k < (chunks s.grain l).length) (hn : ∀ c ∈ chunks s.grain l, c.length ≤ 1000000 ∧ ∀ r ∈ c, r.length ≤ 1000) (hF : ∀ k, F k → k < w.heap.size) : Calls Tryz.prog 207 #[.pointer (some ⟨g, 0, none⟩), .int .i64 k] w fun e w' => ∃ A' c', e = .returned (.tuple #[.slice A' ((chunks s.grain l)[k]).length c', .bool true]) ∧ rdRow.Sl F w' A' c' (chunks s.grain l)[k] ∧ Ext w w' := by
 have hth := thereC F g s l w h k hk
 obtain ⟨hg, A, c, Ag, cg, Am, cm, Ar, cr, hb, h1, h2, h3, h4⟩ := h
 have c4 := bC hb 4
 obtain ⟨b, o, A2, c2, rfl, hc, hcr⟩ := sl_get h2 hk
 obtain ⟨q1, q2⟩ := hn _ (List.getElem_mem hk)
 have hcl := copiedC F A2 c2 (chunks s.grain l)[k] w hcr q1 q2 hF
 generalize chunks s.grain l = M at *
 go_enter Tryz.func207, Tryz.ntmps207
 go_wp2_with (fail)
 refine hth.mono ?_; rintro e w' ⟨rfl, rfl⟩
 go_wp2_with (fail)
 refine hcl.mono ?_; rintro e w1 ⟨A', c', rfl, hs, hE⟩
 go_wp2
 go_ret2
 exact ⟨A', c', rfl, hs, hE⟩
end
end K20
namespace P1
variable {β : Type}
theorem getD_set (l : List β) (i k : Nat) (x d : β) : (l.set i x).getD k d = if k = i ∧ i < l.length then x else l.getD k d := by
 simp only [List.getD_eq_getElem?_getD, List.getElem?_set]
 by_cases h : k = i
 · subst h
   by_cases h2 : k < l.length
   · simp [h2]
   · simp [h2]
 · rw [if_neg (fun e => h e.symm), if_neg (fun e => h e.1)]
def sw (d : β) (l : List β) (i j : Nat) : List β := (l.set i (l.getD j d)).set j (l.getD i d)
theorem sw_length (d : β) (l : List β) (i j : Nat) : (sw d l i j).length = l.length := by simp [sw]
theorem sw_get (d : β) (l : List β) (i j k : Nat) (hi : i < l.length) (hj : j < l.length) : (sw d l i j).getD k d = if k = j then l.getD i d else if k = i then l.getD j d else l.getD k d := by
 rw [sw, getD_set, getD_set]
 simp only [List.length_set, hi, hj, and_true]
theorem sw_perm (d : β) (l : List β) (i j : Nat) (hi : i < l.length) (hj : j < l.length) : (sw d l i j).Perm l := by
 have e1 : l.getD j d = l[j] := by simp [List.getD_eq_getElem?_getD, hj]
 have e2 : l.getD i d = l[i] := by simp [List.getD_eq_getElem?_getD, hi]
 rw [sw, e1, e2]
 exact List.set_set_perm hi hj
def downF (lt : β → β → Bool) (d : β) (n : Nat) : Nat → Nat → List β → List β
 | 0, _, l => l
 | f + 1, i, l =>
   if 2 * i + 1 < n then
     let j := if 2 * i + 2 < n ∧ lt (l.getD (2 * i + 2) d) (l.getD (2 * i + 1) d) = true then 2 * i + 2 else 2 * i + 1
     if lt (l.getD j d) (l.getD i d) = true then downF lt d n f j (sw d l i j) else l
   else l
structure LtOk (lt : β → β → Bool) (Q : β → Prop) : Prop where
 asym : ∀ a b, Q a → Q b → lt a b = true → lt b a = false
 trans : ∀ a b c, Q a → Q b → Q c → lt b a = false → lt c b = false → lt c a = false
def HeapBut (lt : β → β → Bool) (d : β) (n k i : Nat) (l : List β) : Prop :=
 ∀ p, k ≤ p → p ≠ i → ∀ c, (c = 2 * p + 1 ∨ c = 2 * p + 2) → c < n → lt (l.getD c d) (l.getD p d) = false
def Heap (lt : β → β → Bool) (d : β) (n k : Nat) (l : List β) : Prop :=
 ∀ p, k ≤ p → ∀ c, (c = 2 * p + 1 ∨ c = 2 * p + 2) → c < n → lt (l.getD c d) (l.getD p d) = false
theorem downF_length (lt : β → β → Bool) (d : β) (n : Nat) : ∀ f i l, (downF lt d n f i l).length = l.length := by
 intro f
 induction f with
 | zero => intro i l; rfl
 | succ f ih =>
   intro i l
   rw [downF]
   split
   · dsimp only
     generalize (if 2 * i + 2 < n ∧ lt (l.getD (2 * i + 2) d) (l.getD (2 * i + 1) d) = true then 2 * i + 2 else 2 * i + 1) = j
     split
     · rw [ih, sw_length]
     · rfl
   · rfl
theorem downF_ok {lt : β → β → Bool} {Q : β → Prop} (hlt : LtOk lt Q) (d : β) (n k : Nat) : ∀ f i l, n ≤ l.length → (∀ m, m < n → Q (l.getD m d)) → k ≤ i → n ≤ i + f → i < n → HeapBut lt d n k i l →
   (∀ p, k ≤ p → (i = 2 * p + 1 ∨ i = 2 * p + 2) → ∀ c, (c = 2 * i + 1 ∨ c = 2 * i + 2) → c < n → lt (l.getD c d) (l.getD p d) = false) →
   (downF lt d n f i l).Perm l ∧ Heap lt d n k (downF lt d n f i l) ∧ ∀ m, n ≤ m → (downF lt d n f i l).getD m d = l.getD m d := by
 intro f
 induction f with
 | zero => intro i l _ _ _ h1 h2; omega
 | succ f ih =>
   intro i l hn hq hk hf hi hb hg
   rw [downF]
   by_cases h1 : 2 * i + 1 < n
   · rw [if_pos h1]
     obtain ⟨j, hj⟩ : ∃ j, (if 2 * i + 2 < n ∧ lt (l.getD (2 * i + 2) d) (l.getD (2 * i + 1) d) = true then 2 * i + 2 else 2 * i + 1) = j := ⟨_, rfl⟩
     dsimp only
     rw [hj]
     have hj2 : (j = 2 * i + 1 ∨ j = 2 * i + 2) ∧ j < n ∧ ∀ c, (c = 2 * i + 1 ∨ c = 2 * i + 2) → c < n → lt (l.getD c d) (l.getD j d) = false := by
       split at hj
       · rename_i h
         subst hj
         refine ⟨.inr rfl, h.1, fun c hc hcn => ?_⟩
         rcases hc with rfl | rfl
         · exact hlt.asym _ _ (hq _ (by omega)) (hq _ (by omega)) h.2
         · cases hx : lt (l.getD (2 * i + 2) d) (l.getD (2 * i + 2) d) with
           | false => rfl
           | true => have := hlt.asym _ _ (hq _ (by omega)) (hq _ (by omega)) hx; rw [hx] at this; cases this
       · rename_i h
         subst hj
         refine ⟨.inl rfl, h1, fun c hc hcn => ?_⟩
         rcases hc with rfl | rfl
         · cases hx : lt (l.getD (2 * i + 1) d) (l.getD (2 * i + 1) d) with
           | false => rfl
           | true => have := hlt.asym _ _ (hq _ (by omega)) (hq _ (by omega)) hx; rw [hx] at this; cases this
         · cases hx : lt (l.getD (2 * i + 2) d) (l.getD (2 * i + 1) d) with
           | false => rfl
           | true => exact absurd ⟨hcn, hx⟩ h
     obtain ⟨hjc, hjn, hjm⟩ := hj2
     by_cases h2 : lt (l.getD j d) (l.getD i d) = true
     · rw [if_pos h2]
       have hil : i < l.length := by omega
       have hjl : j < l.length := by omega
       have hget := fun m => sw_get d l i j m hil hjl
       have hji : i ≠ j := by omega
       obtain ⟨r1, r2, r3⟩ := ih j (sw d l i j) (by rw [sw_length]; exact hn) (fun m hm => by
           rw [hget m]
           by_cases e1 : m = j
           · rw [if_pos e1]; exact hq i hi
           · rw [if_neg e1]
             by_cases e2 : m = i
             · rw [if_pos e2]; exact hq j hjn
             · rw [if_neg e2]; exact hq m hm) (by omega) (by omega) hjn (fun p hp hpj c hc hcn => by
           rw [hget c, hget p, if_neg hpj]
           by_cases hpi : p = i
           · subst hpi
             rw [if_pos rfl]
             by_cases hcj : c = j
             · rw [if_pos hcj]; exact hlt.asym _ _ (hq _ hjn) (hq _ hi) h2
             · rw [if_neg hcj, if_neg (by omega)]
               exact hjm c hc hcn
           · rw [if_neg hpi]
             by_cases hcj : c = j
             · exact absurd hcj (by omega)
             · rw [if_neg hcj]
               by_cases hci : c = i
               · rw [if_pos hci]
                 exact hg p hp (by omega) j hjc hjn
               · rw [if_neg hci]
                 exact hb p hp hpi c hc hcn) (fun p hp hpc c hc hcn => by
           have hpi : p = i := by omega
           subst hpi
           rw [hget c, hget p, if_neg (by omega), if_neg hji, if_pos rfl, if_neg (by omega)]
           exact hb j (by omega) (by omega) c hc hcn)
       refine ⟨r1.trans (sw_perm d l i j hil hjl), r2, fun m hm => ?_⟩
       rw [r3 m hm, hget m, if_neg (by omega), if_neg (by omega)]
     · rw [if_neg h2]
       refine ⟨.refl _, fun p hp c hc hcn => ?_, fun m _ => rfl⟩
       by_cases hpi : p = i
       · subst hpi
         have hx : lt (l.getD j d) (l.getD p d) = false := by simpa using h2
         exact hlt.trans _ _ _ (hq _ (by omega)) (hq _ (by omega)) (hq _ (by omega)) hx (hjm c hc hcn)
       · exact hb p hp hpi c hc hcn
   · rw [if_neg h1]
     refine ⟨.refl _, fun p hp c hc hcn => ?_, fun m _ => rfl⟩
     by_cases hpi : p = i
     · subst hpi; omega
     · exact hb p hp hpi c hc hcn
theorem getD_all {Q : β → Prop} {d : β} {n : Nat} {l : List β} (hn : n = l.length) (h : ∀ x ∈ l, Q x) : ∀ m, m < n → Q (l.getD m d) := fun m hm => by
 rw [List.getD_eq_getElem?_getD, List.getElem?_eq_getElem (by omega)]; exact h _ (List.getElem_mem _)
def initF (lt : β → β → Bool) (d : β) (n : Nat) : Nat → List β → List β
 | 0, l => l
 | i + 1, l => initF lt d n i (downF lt d n (n + 1) i l)
theorem initF_ok {lt : β → β → Bool} {Q : β → Prop} (hlt : LtOk lt Q) (d : β) (n : Nat) : ∀ k l, n = l.length → (∀ x ∈ l, Q x) → k ≤ n → Heap lt d n k l → (initF lt d n k l).Perm l ∧ Heap lt d n 0 (initF lt d n k l) := by
 intro k
 induction k with
 | zero => intro l _ _ _ h; exact ⟨.refl _, h⟩
 | succ k ih =>
   intro l hn hQ hk h
   obtain ⟨r1, r2, _⟩ := downF_ok hlt d n k (n + 1) k l (by omega) (getD_all hn hQ) (Nat.le_refl _) (by omega) (by omega) (fun p hp hpk => h p (by omega)) (fun p hp hpc => by omega)
   obtain ⟨s1, s2⟩ := ih (downF lt d n (n + 1) k l) (by rw [downF_length]; exact hn) (fun x hx => hQ x (r1.mem_iff.1 hx)) (by omega) r2
   exact ⟨s1.trans r1, s2⟩
theorem heap_half (lt : β → β → Bool) (d : β) (n : Nat) (l : List β) : Heap lt d n (n / 2) l := fun p hp c hc hcn => by omega
theorem heap_min {lt : β → β → Bool} {Q : β → Prop} (hlt : LtOk lt Q) (d : β) (n : Nat) (l : List β) (hq : ∀ m, m < n → Q (l.getD m d)) (h : Heap lt d n 0 l) : ∀ m, m < n → lt (l.getD m d) (l.getD 0 d) = false := by
 intro m
 induction m using Nat.strongRecOn with
 | ind m ih =>
   intro hm
   by_cases h0 : m = 0
   · subst h0
     cases hx : lt (l.getD 0 d) (l.getD 0 d) with
     | false => rfl
     | true => have := hlt.asym _ _ (hq _ (by omega)) (hq _ (by omega)) hx; rw [hx] at this; cases this
   · have hp := h ((m - 1) / 2) (Nat.zero_le _) m (by omega) hm
     have hp2 := ih ((m - 1) / 2) (by omega) (by omega)
     exact hlt.trans _ _ _ (hq _ (by omega)) (hq _ (by omega)) (hq _ (by omega)) hp2 hp
end P1
namespace P2
open P1
variable {α : Type}
structure Ord (c : α → α → Int) (P : α → Prop) : Prop where
 sym : ∀ a b, P a → P b → (c a b < 0 ↔ 0 < c b a)
 trans : ∀ a b d, P a → P b → P d → c a b ≤ 0 → c b d ≤ 0 → c a d ≤ 0
theorem Ord.refl {c : α → α → Int} {P : α → Prop} (h : Ord c P) {a : α} (ha : P a) : c a a = 0 := by
 have := h.sym a a ha ha; omega
theorem Ord.zero {c : α → α → Int} {P : α → Prop} (h : Ord c P) {a b : α} (ha : P a) (hb : P b) (e : c a b = 0) : c b a = 0 := by
 have h1 := h.sym a b ha hb; have h2 := h.sym b a hb ha; omega
theorem Ord.ge {c : α → α → Int} {P : α → Prop} (h : Ord c P) {a b : α} (ha : P a) (hb : P b) (e : 0 ≤ c a b) : c b a ≤ 0 := by
 have h1 := h.sym a b ha hb; have h2 := h.sym b a hb ha; omega
theorem Ord.le {c : α → α → Int} {P : α → Prop} (h : Ord c P) {a b : α} (ha : P a) (hb : P b) (e : c a b ≤ 0) : 0 ≤ c b a := by
 have h1 := h.sym a b ha hb; have h2 := h.sym b a hb ha; omega
theorem Ord.eqv {c : α → α → Int} {P : α → Prop} (h : Ord c P) {a b k : α} (ha : P a) (hb : P b) (hk : P k) (e1 : c a k = 0) (e2 : c b k = 0) : c a b = 0 := by
 have h1 := h.trans a k b ha hk hb (by omega) (by have := h.zero hb hk e2; omega)
 have h2 := h.trans b k a hb hk ha (by omega) (by have := h.zero ha hk e1; omega)
 have := h.le hb ha h2; omega
abbrev Srt (c : α → α → Int) (l : List α) : Prop := l.Pairwise fun a b => c a b ≤ 0
def cls (c : α → α → Int) (k : α) (l : List α) : List α := l.filter fun a => decide (c a k = 0)
theorem cls_append (c : α → α → Int) (k : α) (l m : List α) : cls c k (l ++ m) = cls c k l ++ cls c k m := List.filter_append ..
theorem cls_nil {c : α → α → Int} {k : α} {l : List α} (h : ∀ a ∈ l, c a k ≠ 0) : cls c k l = [] := by
 rw [cls, List.filter_eq_nil_iff]; intro a ha; simpa using h a ha
theorem cls_mem {c : α → α → Int} {k a : α} {l : List α} : a ∈ cls c k l ↔ a ∈ l ∧ c a k = 0 := by simp [cls]
theorem stable_unique {c : α → α → Int} {P : α → Prop} (h : Ord c P) : ∀ l m : List α, (∀ a ∈ l, P a) → (∀ a ∈ m, P a) → Srt c l → Srt c m → (∀ k, P k → cls c k l = cls c k m) → l = m := by
 intro l
 induction l with
 | nil =>
   intro m _ hm _ _ hf
   cases m with
   | nil => rfl
   | cons b m =>
     have hb := hm b (List.mem_cons_self ..)
     have : b ∈ cls c b (b :: m) := cls_mem.2 ⟨List.mem_cons_self .., h.refl hb⟩
     rw [← hf b hb] at this; cases this
 | cons a l ih =>
   intro m hl hm sl sm hf
   have ha := hl a (List.mem_cons_self ..)
   cases m with
   | nil =>
     have : a ∈ cls c a (a :: l) := cls_mem.2 ⟨List.mem_cons_self .., h.refl ha⟩
     rw [hf a ha] at this; cases this
   | cons b m =>
     have hb := hm b (List.mem_cons_self ..)
     have h1 : c b a ≤ 0 := by
       have : a ∈ cls c a (b :: m) := by rw [← hf a ha]; exact cls_mem.2 ⟨List.mem_cons_self .., h.refl ha⟩
       rcases List.mem_cons.1 (cls_mem.1 this).1 with e | e
       · rw [e, h.refl hb]; omega
       · exact (List.pairwise_cons.1 sm).1 a e
     have h2 : c a b ≤ 0 := by
       have : b ∈ cls c b (a :: l) := by rw [hf b hb]; exact cls_mem.2 ⟨List.mem_cons_self .., h.refl hb⟩
       rcases List.mem_cons.1 (cls_mem.1 this).1 with e | e
       · rw [e, h.refl ha]; omega
       · exact (List.pairwise_cons.1 sl).1 b e
     have h0 : c b a = 0 := by have := h.le ha hb h2; omega
     have hfa := hf a ha
     rw [cls, cls, List.filter_cons_of_pos (by simp [h.refl ha]), List.filter_cons_of_pos (by simp [h0])] at hfa
     injection hfa with e1 e2
     subst e1
     congr 1
     refine ih m (fun x hx => hl x (List.mem_cons_of_mem _ hx)) (fun x hx => hm x (List.mem_cons_of_mem _ hx)) (List.pairwise_cons.1 sl).2 (List.pairwise_cons.1 sm).2 (fun k hk => ?_)
     have := hf k hk
     rw [cls, cls] at this
     by_cases hak : c a k = 0
     · rw [List.filter_cons_of_pos (by simp [hak]), List.filter_cons_of_pos (by simp [hak])] at this
       injection this
     · rwa [List.filter_cons_of_neg (by simp [hak]), List.filter_cons_of_neg (by simp [hak])] at this
/-! ### the merge -/
abbrev Src (α : Type) := List α × Nat
def ltS (c : α → α → Int) (x y : Src α) : Bool := match x.1, y.1 with
 | a :: _, b :: _ => if c a b = 0 then decide (x.2 < y.2) else decide (c a b < 0)
 | _, _ => false
theorem ltS_ok {c : α → α → Int} {P : α → Prop} (h : Ord c P) : LtOk (ltS c) (fun x => x.1 ≠ [] ∧ ∀ r ∈ x.1, P r) where
 asym := by
   rintro ⟨x, i⟩ ⟨y, j⟩ ⟨hx, px⟩ ⟨hy, py⟩ hl
   obtain ⟨a, as1, rfl⟩ := List.exists_cons_of_ne_nil hx
   obtain ⟨b, bs, rfl⟩ := List.exists_cons_of_ne_nil hy
   have pa := px a (List.mem_cons_self ..)
   have pb := py b (List.mem_cons_self ..)
   simp only [ltS] at hl ⊢
   by_cases h0 : c a b = 0
   · rw [if_pos h0] at hl; rw [if_pos (h.zero pa pb h0)]; simp at hl ⊢; omega
   · rw [if_neg h0] at hl; rw [if_neg (fun e => h0 (h.zero pb pa e))]
     have := (h.sym a b pa pb).1 (by simpa using hl)
     simp; omega
 trans := by
   rintro ⟨x, i⟩ ⟨y, j⟩ ⟨z, k⟩ ⟨hx, px⟩ ⟨hy, py⟩ ⟨hz, pz⟩ h1 h2
   obtain ⟨a, as1, rfl⟩ := List.exists_cons_of_ne_nil hx
   obtain ⟨b, bs, rfl⟩ := List.exists_cons_of_ne_nil hy
   obtain ⟨d, ds, rfl⟩ := List.exists_cons_of_ne_nil hz
   have pa := px a (List.mem_cons_self ..)
   have pb := py b (List.mem_cons_self ..)
   have pd := pz d (List.mem_cons_self ..)
   simp only [ltS] at h1 h2 ⊢
   have g1 : 0 ≤ c b a := by
     by_cases e : c b a = 0
     · omega
     · rw [if_neg e] at h1; simpa using h1
   have g2 : 0 ≤ c d b := by
     by_cases e : c d b = 0
     · omega
     · rw [if_neg e] at h2; simpa using h2
   have g3 := h.trans a b d pa pb pd (h.ge pb pa g1) (h.ge pd pb g2)
   have g4 := h.le pa pd g3
   by_cases e : c d a = 0
   · rw [if_pos e]
     have e1 : c b a = 0 := by
       have h3 := h.trans b d a pb pd pa (h.ge pd pb g2) (by omega)
       omega
     have e2 : c d b = 0 := by
       have h3 := h.trans d a b pd pa pb (by omega) (h.ge pb pa g1)
       omega
     rw [if_pos e1] at h1; rw [if_pos e2] at h2
     simp at h1 h2 ⊢; omega
   · rw [if_neg e]; simp; omega
def popF (c : α → α → Int) (l : List (Src α)) : List (Src α) := (downF (ltS c) ([], 0) (l.length - 1) (l.length) 0 (sw ([], 0) l 0 (l.length - 1))).take (l.length - 1)
def fixF (c : α → α → Int) (l : List (Src α)) : List (Src α) := downF (ltS c) ([], 0) l.length (l.length + 1) 0 l
def mergeF (c : α → α → Int) : Nat → List (Src α) → List α → List α
 | 0, _, out => out
 | _ + 1, [], out => out
 | _ + 1, ([], _) :: _, out => out
 | f + 1, (r :: rs, i) :: t, out => if rs = [] then mergeF c f (popF c (([], i) :: t)) (out ++ [r]) else mergeF c f (fixF c ((rs, i) :: t)) (out ++ [r])
def srcs (rem : List (List α)) : List (Src α) := rem.zipIdx.filter fun x => !x.1.isEmpty
def mergeR (c : α → α → Int) (ls : List (List α)) : List α := mergeF c ls.flatten.length (initF (ltS c) ([], 0) (srcs ls).length ((srcs ls).length / 2) (srcs ls)) []
theorem srcs_split (A B : List (List α)) (x : List α) : srcs (A ++ x :: B) = srcs A ++ ((if x = [] then [] else [(x, A.length)]) ++ (B.zipIdx (A.length + 1)).filter fun x => !x.1.isEmpty) := by
 rw [srcs, List.zipIdx_append, List.filter_append, List.zipIdx_cons, Nat.zero_add]
 congr 1
 cases x with
 | nil => simp
 | cons a x => simp
theorem srcs_mem {rem : List (List α)} {x : List α} {i : Nat} : (x, i) ∈ srcs rem ↔ rem[i]? = some x ∧ x ≠ [] := by
 rw [srcs, List.mem_filter, List.mem_zipIdx_iff_getElem?]
 simp
theorem take_perm {β : Type} {l : List β} {x : β} {t : List β} {n : Nat} (d : β) (hl : l.length = n + 1) (hx : l.getD n d = x) (hp : l.Perm (x :: t)) : (l.take n).Perm t := by
 have h1 : l = l.take n ++ [x] := by
   rw [← hx, List.getD_eq_getElem?_getD, List.getElem?_eq_getElem (by omega)]
   have := List.take_succ_eq_append_getElem (l := l) (i := n) (by omega)
   rw [Option.getD_some, ← this, List.take_of_length_le (by omega)]
 rw [h1] at hp
 rw [h1, List.take_left' (by rw [List.length_take]; omega)]
 exact (List.perm_append_singleton x _ |>.symm.trans hp).cons_inv
theorem mergeF_ok {c : α → α → Int} {P : α → Prop} (h : Ord c P) : ∀ f (l : List (Src α)) (rem : List (List α)) (out : List α), rem.flatten.length ≤ f → l.Perm (srcs rem) → Heap (ltS c) ([], 0) l.length 0 l → (∀ x ∈ rem, Srt c x ∧ ∀ r ∈ x, P r) →
   ∃ M, mergeF c f l out = out ++ M ∧ M.Perm rem.flatten ∧ Srt c M ∧ ∀ k, P k → cls c k M = cls c k rem.flatten := by
 intro f
 induction f with
 | zero =>
   intro l rem out hf hp hh hr
   have h0 : rem.flatten = [] := List.eq_nil_of_length_eq_zero (by omega)
   exact ⟨[], by simp [mergeF], by rw [h0], .nil, fun k _ => by rw [h0]⟩
 | succ f ih =>
   intro l rem out hf hp hh hr
   have hQ : ∀ x ∈ l, x.1 ≠ [] ∧ ∀ r ∈ x.1, P r := by
     rintro ⟨x, i⟩ hx
     obtain ⟨h1, h2⟩ := srcs_mem.1 (hp.mem_iff.1 hx)
     exact ⟨h2, (hr x (List.mem_of_getElem? h1)).2⟩
   match l, hp, hh, hQ with
   | [], hp, hh, hQ =>
     have hs : srcs rem = [] := List.Perm.nil_eq hp |>.symm
     have h0 : rem.flatten = [] := by
       rw [List.flatten_eq_nil_iff]
       intro x hx
       obtain ⟨i, hi⟩ := List.getElem?_of_mem hx
       by_cases e : x = []
       · exact e
       · have := srcs_mem.2 ⟨hi, e⟩; rw [hs] at this; cases this
     exact ⟨[], by simp [mergeF], by rw [h0], .nil, fun k _ => by rw [h0]⟩
   | ([], i) :: t, hp, hh, hQ => exact absurd rfl (hQ ([], i) (List.mem_cons_self ..)).1
   | (r :: rs, i) :: t, hp, hh, hQ =>
     have hri := (srcs_mem.1 (hp.mem_iff.1 (List.mem_cons_self ..))).1
     obtain ⟨hil, hie⟩ := List.getElem?_eq_some_iff.1 hri
     obtain ⟨A, B, rfl, hA⟩ : ∃ A B, rem = A ++ (r :: rs) :: B ∧ A.length = i := ⟨rem.take i, rem.drop (i + 1), by rw [← hie, List.getElem_cons_drop, List.take_append_drop], by rw [List.length_take]; omega⟩
     have hrs := hr (r :: rs) (by simp)
     have Pr := hrs.2 r (List.mem_cons_self ..)
     -- nothing is less
     have hmin : ∀ j x, (A ++ (r :: rs) :: B)[j]? = some x → ∀ a as1, x = a :: as1 → c a r = 0 ∧ i ≤ j ∨ 0 < c a r := by
       intro j x hj a as1 hx
       have hm : (x, j) ∈ srcs (A ++ (r :: rs) :: B) := srcs_mem.2 ⟨hj, by rw [hx]; exact List.cons_ne_nil _ _⟩
       obtain ⟨m, hml, hme⟩ := List.getElem_of_mem (hp.mem_iff.2 hm)
       have := heap_min (ltS_ok h) ([], 0) _ _ (getD_all rfl hQ) hh m hml
       rw [List.getD_eq_getElem?_getD, List.getElem?_eq_getElem hml, hme, List.getD_eq_getElem?_getD] at this
       simp only [Option.getD_some, List.length_cons, Nat.zero_lt_succ, List.getElem?_eq_getElem, List.getElem_cons_zero, hx, ltS] at this
       by_cases h0 : c a r = 0
       · rw [if_pos h0] at this; simp at this; exact .inl ⟨h0, this⟩
       · rw [if_neg h0] at this; simp at this; exact .inr (by omega)
     have hnil : ∀ k, P k → c r k = 0 → cls c k A.flatten = [] := by
       intro k hk hrk
       refine cls_nil fun x hx hxk => ?_
       obtain ⟨y, hy, hxy⟩ := List.mem_flatten.1 hx
       obtain ⟨j, hj⟩ := List.getElem?_of_mem hy
       have hjl := (List.getElem?_eq_some_iff.1 hj).1
       have hyr := hr y (by simp [hy])
       cases y with
       | nil => cases hxy
       | cons a as1 =>
         have Pa := hyr.2 a (List.mem_cons_self ..)
         have Px := hyr.2 x hxy
         have h1 := hmin j (a :: as1) (by rw [List.getElem?_append_left hjl]; exact hj) a as1 rfl
         have h2 : c x r = 0 := h.eqv Px Pr hk hxk hrk
         have h3 : c a x ≤ 0 := by
           rcases List.mem_cons.1 hxy with e | e
           · rw [e, h.refl Pa]; omega
           · exact (List.pairwise_cons.1 hyr.1).1 x e
         have h4 := h.trans a x r Pa Px Pr h3 (by omega)
         rcases h1 with ⟨_, h1⟩ | h1 <;> omega
     have hle : ∀ y ∈ (A ++ rs :: B).flatten, c r y ≤ 0 := by
       intro y hy
       obtain ⟨z, hz, hyz⟩ := List.mem_flatten.1 hy
       have hcase : y ∈ rs ∨ ∃ z ∈ A ++ (r :: rs) :: B, y ∈ z := by
         rcases List.mem_append.1 hz with e | e
         · exact .inr ⟨z, by simp [e], hyz⟩
         · rcases List.mem_cons.1 e with e | e
           · exact .inl (e ▸ hyz)
           · exact .inr ⟨z, by simp [e], hyz⟩
       rcases hcase with e | ⟨z, hz, hyz⟩
       · exact (List.pairwise_cons.1 hrs.1).1 y e
       · obtain ⟨j, hj⟩ := List.getElem?_of_mem hz
         have hzr := hr z hz
         cases z with
         | nil => cases hyz
         | cons a as1 =>
           have Pa := hzr.2 a (List.mem_cons_self ..)
           have Py := hzr.2 y hyz
           have h1 := hmin j _ hj a as1 rfl
           have h2 : c r a ≤ 0 := h.ge Pa Pr (by rcases h1 with ⟨h1, _⟩ | h1 <;> omega)
           have h3 : c a y ≤ 0 := by
             rcases List.mem_cons.1 hyz with e | e
             · rw [e, h.refl Pa]; omega
             · exact (List.pairwise_cons.1 hzr.1).1 y e
           exact h.trans r a y Pr Pa Py h2 h3
     have hr' : ∀ x ∈ A ++ rs :: B, Srt c x ∧ ∀ r ∈ x, P r := by
       intro x hx
       rcases List.mem_append.1 hx with e | e
       · exact hr x (by simp [e])
       · rcases List.mem_cons.1 e with e | e
         · subst e; exact ⟨(List.pairwise_cons.1 hrs.1).2, fun y hy => hrs.2 y (List.mem_cons_of_mem _ hy)⟩
         · exact hr x (by simp [e])
     have hf' : (A ++ rs :: B).flatten.length ≤ f := by
       simp only [List.flatten_append, List.flatten_cons, List.length_append, List.length_cons] at hf ⊢; omega
     have ht : t.Perm (srcs A ++ ((B.zipIdx (A.length + 1)).filter fun x => !x.1.isEmpty)) := by
       rw [srcs_split, if_neg (List.cons_ne_nil _ _), hA] at hp
       have := hp.trans List.perm_middle
       rw [hA]
       exact this.cons_inv
     have fin : ∀ l', l'.Perm (srcs (A ++ rs :: B)) → Heap (ltS c) ([], 0) l'.length 0 l' → ∃ M, mergeF c f l' (out ++ [r]) = out ++ M ∧ M.Perm (A ++ (r :: rs) :: B).flatten ∧ Srt c M ∧ ∀ k, P k → cls c k M = cls c k (A ++ (r :: rs) :: B).flatten := by
       intro l' hl' hh'
       obtain ⟨M, m1, m2, m3, m4⟩ := ih l' (A ++ rs :: B) (out ++ [r]) hf' hl' hh' hr'
       refine ⟨r :: M, by rw [m1]; simp, ?_, List.pairwise_cons.2 ⟨fun y hy => hle y (m2.mem_iff.1 hy), m3⟩, fun k hk => ?_⟩
       · refine (m2.cons r).trans ?_
         simp only [List.flatten_append, List.flatten_cons]
         exact List.perm_middle.symm
       · have := m4 k hk
         simp only [List.flatten_append, List.flatten_cons, List.cons_append] at this ⊢
         rw [cls_append] at this ⊢
         by_cases h0 : c r k = 0
         · rw [hnil k hk h0, List.nil_append] at this ⊢
           rw [cls, List.filter_cons_of_pos (by simp [h0]), cls, List.filter_cons_of_pos (by simp [h0])]
           exact congrArg (r :: ·) this
         · rw [cls, List.filter_cons_of_neg (by simp [h0])]
           rw [show cls c k (r :: (rs ++ B.flatten)) = cls c k (rs ++ B.flatten) from by rw [cls, List.filter_cons_of_neg (by simp [h0])]; rfl]
           exact this
     have hbut : ∀ y, HeapBut (ltS c) ([], 0) (t.length + 1) 0 0 (y :: t) := by
       intro y p hp0 hpn q hq hqn
       have := hh p hp0 q hq hqn
       obtain ⟨p', rfl⟩ : ∃ p', p = p' + 1 := ⟨p - 1, by omega⟩
       obtain ⟨q', rfl⟩ : ∃ q', q = q' + 1 := ⟨q - 1, by omega⟩
       simpa using this
     rw [mergeF]
     by_cases hrn : rs = []
     · rw [if_pos hrn]
       subst hrn
       have hs' : t.Perm (srcs (A ++ [] :: B)) := by rw [srcs_split, if_pos rfl, List.nil_append]; exact ht
       rcases Nat.eq_zero_or_pos t.length with h0 | h0
       · obtain rfl : t = [] := List.eq_nil_of_length_eq_zero h0
         exact fin _ (by simpa [popF] using hs') (fun p _ c hc hcn => by simp [popF] at hcn)
       · have hsl : (sw ([], 0) (([], i) :: t) 0 t.length).length = t.length + 1 := by rw [sw_length]; rfl
         have hsg := fun m => sw_get ([], 0) (([], i) :: t) 0 t.length m (by simp) (by simp)
         have hsp := sw_perm ([], 0) (([], i) :: t) 0 t.length (by simp) (by simp)
         have hqd : ∀ m, m < t.length → ((sw ([], 0) (([], i) :: t) 0 t.length).getD m ([], 0)).1 ≠ [] ∧ ∀ r ∈ ((sw ([], 0) (([], i) :: t) 0 t.length).getD m ([], 0)).1, P r := by
           intro m hm
           rw [hsg m, if_neg (by omega)]
           by_cases hm0 : m = 0
           · rw [if_pos hm0]
             obtain ⟨n', hn'⟩ : ∃ n', t.length = n' + 1 := ⟨t.length - 1, by omega⟩
             rw [hn', List.getD_cons_succ, List.getD_eq_getElem?_getD, List.getElem?_eq_getElem (by omega)]
             exact hQ _ (List.mem_cons_of_mem _ (List.getElem_mem _))
           · rw [if_neg hm0]
             obtain ⟨m', rfl⟩ : ∃ m', m = m' + 1 := ⟨m - 1, by omega⟩
             rw [List.getD_cons_succ, List.getD_eq_getElem?_getD, List.getElem?_eq_getElem (by omega)]
             exact hQ _ (List.mem_cons_of_mem _ (List.getElem_mem _))
         obtain ⟨q1, q2, q3⟩ := downF_ok (ltS_ok h) ([], 0) t.length 0 (t.length + 1) 0 (sw ([], 0) (([], i) :: t) 0 t.length) (by omega) hqd (Nat.le_refl _) (by omega) h0 (fun p hp hpn q hq hqn => by
           have := hbut ([], i) p hp hpn q hq (by omega)
           rw [hsg q, hsg p, if_neg (by omega), if_neg (by omega), if_neg (by omega), if_neg (by omega)]
           exact this) (fun p hp hpc => by omega)
         have hpl : popF c (([], i) :: t) = (downF (ltS c) ([], 0) t.length (t.length + 1) 0 (sw ([], 0) (([], i) :: t) 0 t.length)).take t.length := rfl
         have hlast : (downF (ltS c) ([], 0) t.length (t.length + 1) 0 (sw ([], 0) (([], i) :: t) 0 t.length)).getD t.length ([], 0) = ([], i) := by
           rw [q3 _ (Nat.le_refl _), hsg t.length, if_pos rfl]; rfl
         rw [hpl]
         refine fin _ ((take_perm ([], 0) (by rw [downF_length, hsl]) hlast (q1.trans hsp)).trans hs') ?_
         rw [List.length_take, downF_length, hsl, Nat.min_eq_left (by omega)]
         intro p hp q hq hqn
         have := q2 p hp q hq hqn
         simp only [List.getD_eq_getElem?_getD, List.getElem?_take] at this ⊢
         rw [if_pos hqn, if_pos (by omega)]
         exact this
     · rw [if_neg hrn]
       have hp2 : ((rs, i) :: t).Perm (srcs (A ++ rs :: B)) := by
         rw [srcs_split, if_neg hrn, hA]
         have := List.Perm.cons (rs, i) ht
         rw [hA] at this
         exact this.trans List.perm_middle.symm
       have hQ2 : ∀ x ∈ (rs, i) :: t, x.1 ≠ [] ∧ ∀ r ∈ x.1, P r := by
         intro x hx
         rcases List.mem_cons.1 hx with e | e
         · subst e; exact ⟨hrn, fun y hy => hrs.2 y (List.mem_cons_of_mem _ hy)⟩
         · exact hQ x (List.mem_cons_of_mem _ e)
       obtain ⟨q1, q2, _⟩ := downF_ok (ltS_ok h) ([], 0) (t.length + 1) 0 (t.length + 2) 0 ((rs, i) :: t) (by simp) (getD_all rfl hQ2) (Nat.le_refl _) (by omega) (by omega) (hbut _) (fun p hp hpc => by omega)
       refine fin _ (q1.trans hp2) ?_
       rw [show (fixF c ((rs, i) :: t)).length = t.length + 1 from by rw [fixF, downF_length]; rfl]
       exact q2
end P2
namespace P3
open P1 P2
variable {α : Type}
def foldStep (c : α → α → Int) (one : α → α → α) (out : List α) (r : α) : List α := match out.getLast? with
 | some o => if c o r = 0 then out.dropLast ++ [one o r] else out ++ [r]
 | none => [r]
def foldL (c : α → α → Int) (one : α → α → α) (l : List α) : List α := l.foldl (foldStep c one) []
theorem foldL_snoc (c : α → α → Int) (one : α → α → α) (l : List α) (r : α) : foldL c one (l ++ [r]) = foldStep c one (foldL c one l) r := by simp [foldL]
theorem foldStep_nil (c : α → α → Int) (one : α → α → α) (r : α) : foldStep c one [] r = [r] := rfl
theorem foldStep_snoc (c : α → α → Int) (one : α → α → α) (m : List α) (o r : α) : foldStep c one (m ++ [o]) r = if c o r = 0 then m ++ [one o r] else (m ++ [o]) ++ [r] := by simp [foldStep]
theorem snoc_cases (l : List α) : l = [] ∨ ∃ m x, l = m ++ [x] := by
 rcases List.eq_nil_or_concat l with h | ⟨m, x, h⟩
 · exact .inl h
 · exact .inr ⟨m, x, by simpa using h⟩
theorem snoc_rec {M : List α → Prop} (h0 : M []) (hs : ∀ l x, M l → M (l ++ [x])) (l : List α) : M l := by
 have h : ∀ r : List α, M r.reverse := by
   intro r
   induction r with
   | nil => exact h0
   | cons x r ih => rw [List.reverse_cons]; exact hs _ _ ih
 have := h l.reverse
 rwa [List.reverse_reverse] at this
def OneOk (c : α → α → Int) (P : α → Prop) (one : α → α → α) : Prop := ∀ a b, P a → P b → c a b = 0 → P (one a b) ∧ c (one a b) a = 0
abbrev Strict (c : α → α → Int) (l : List α) : Prop := l.Pairwise fun a b => c a b < 0
theorem Ord.lt_of {c : α → α → Int} {P : α → Prop} (h : Ord c P) {a b d : α} (ha : P a) (hb : P b) (hd : P d) (e1 : c a b < 0) (e2 : c b d ≤ 0) : c a d < 0 := by
 have h1 := h.trans a b d ha hb hd (by omega) e2
 by_cases e : c a d = 0
 · have h2 := h.trans b d a hb hd ha e2 (by have := h.zero ha hd e; omega)
   have h3 := h.ge ha hb (by have := h.le hb ha h2; omega)
   have h4 := (h.sym a b ha hb).1 e1
   omega
 · omega
theorem foldL_ok {c : α → α → Int} {P : α → Prop} (h : Ord c P) {one : α → α → α} (h1 : OneOk c P one) (l : List α) : (∀ a ∈ l, P a) → Srt c l →
   Strict c (foldL c one l) ∧ (∀ a ∈ foldL c one l, P a ∧ ∃ b ∈ l, c a b = 0) ∧ (foldL c one l).length ≤ l.length ∧ (foldL c one l = [] ↔ l = []) ∧
   (∀ o, (foldL c one l).getLast? = some o → ∀ b ∈ l, c b o ≤ 0) := by
 refine snoc_rec (M := fun l => (∀ a ∈ l, P a) → Srt c l →
   Strict c (foldL c one l) ∧ (∀ a ∈ foldL c one l, P a ∧ ∃ b ∈ l, c a b = 0) ∧ (foldL c one l).length ≤ l.length ∧ (foldL c one l = [] ↔ l = []) ∧
   (∀ o, (foldL c one l).getLast? = some o → ∀ b ∈ l, c b o ≤ 0)) ?_ ?_ l
 · intro _ _; exact ⟨.nil, (fun a ha => by cases ha), Nat.le_refl _, by simp [foldL], fun o ho => by simp [foldL] at ho⟩
 · intro l r ih hP hs
   have hPl : ∀ a ∈ l, P a := fun a ha => hP a (List.mem_append_left _ ha)
   have Pr := hP r (by simp)
   have hs2 := List.pairwise_append.1 hs
   have hlr : ∀ a ∈ l, c a r ≤ 0 := fun a ha => hs2.2.2 a ha r (by simp)
   obtain ⟨i1, i2, i3, i4, i5⟩ := ih hPl hs2.1
   rw [foldL_snoc]
   rcases snoc_cases (foldL c one l) with e | ⟨m, o, e⟩
   · rw [e, foldStep_nil]
     have hl := i4.1 e
     subst hl
     exact ⟨List.pairwise_singleton _ _, (fun a ha => by simp at ha; subst ha; exact ⟨Pr, a, by simp, h.refl Pr⟩), by simp, by simp, fun o ho b hb => by simp at ho hb; subst ho hb; rw [h.refl Pr]; omega⟩
   · rw [e] at i1 i2 i3 i4 i5 ⊢
     rw [foldStep_snoc]
     have i1' := List.pairwise_append.1 i1
     obtain ⟨Po, y, hy, hoy⟩ := i2 o (by simp)
     have Py := hPl y hy
     have hor : c o r ≤ 0 := h.trans o y r Po Py Pr (by omega) (hlr y hy)
     by_cases h0 : c o r = 0
     · rw [if_pos h0]
       obtain ⟨P1, c1⟩ := h1 o r Po Pr h0
       have c2 : c (one o r) r = 0 := h.eqv P1 Pr Po c1 (h.zero Po Pr h0)
       refine ⟨List.pairwise_append.2 ⟨i1'.1, List.pairwise_singleton _ _, fun a ha b hb => ?_⟩, fun a ha => ?_, ?_, ?_, fun o' ho' b hb => ?_⟩
       · simp at hb; subst hb
         have := h.zero P1 Po c1
         exact Ord.lt_of h (i2 a (by simp [ha])).1 Po P1 (i1'.2.2 a ha o (by simp)) (by omega)
       · rcases List.mem_append.1 ha with q | q
         · obtain ⟨q1, b, q2, q3⟩ := i2 a (by simp [q])
           exact ⟨q1, b, by simp [q2], q3⟩
         · simp at q; subst q
           exact ⟨P1, r, by simp, c2⟩
       · simp at i3 ⊢; omega
       · simp
       · simp at ho'; subst ho'
         rcases List.mem_append.1 hb with q | q
         · have := i5 o (by simp) b q
           exact h.trans b o _ (hPl b q) Po P1 this (by have := h.zero P1 Po c1; omega)
         · simp at q; subst q
           have := h.zero P1 Pr c2; omega
     · rw [if_neg h0]
       refine ⟨List.pairwise_append.2 ⟨i1, List.pairwise_singleton _ _, fun a ha b hb => ?_⟩, fun a ha => ?_, by simp at i3 ⊢; omega, by simp, fun o' ho' b hb => ?_⟩
       · simp at hb; subst hb
         rcases List.mem_append.1 ha with q | q
         · exact Ord.lt_of h (i2 a (by simp [q])).1 Po Pr (i1'.2.2 a q o (by simp)) (by omega)
         · simp at q; subst q; omega
       · rcases List.mem_append.1 ha with q | q
         · obtain ⟨q1, b, q2, q3⟩ := i2 a q
           exact ⟨q1, b, by simp [q2], q3⟩
         · simp at q; subst q
           exact ⟨Pr, a, by simp, h.refl Pr⟩
       · simp at ho'; subst ho'
         rcases List.mem_append.1 hb with q | q
         · exact hlr b q
         · simp at q; subst q; rw [h.refl Pr]; omega
theorem foldL_last {c : α → α → Int} {P : α → Prop} (h : Ord c P) (l : List α) : (∀ a ∈ l, P a) → Srt c l → ∀ k, P k → cls c k (foldL c (fun _ b => b) l) = (cls c k l).getLast?.toList := by
 have h1 : OneOk c P (fun _ b => b) := fun a b ha hb e => ⟨hb, h.zero ha hb e⟩
 refine snoc_rec (M := fun l => (∀ a ∈ l, P a) → Srt c l → ∀ k, P k → cls c k (foldL c (fun _ b => b) l) = (cls c k l).getLast?.toList) ?_ ?_ l
 · intro _ _ k _; rfl
 · intro l r ih hP hs k hk
   have hPl : ∀ a ∈ l, P a := fun a ha => hP a (List.mem_append_left _ ha)
   have Pr := hP r (by simp)
   have hs2 := List.pairwise_append.1 hs
   obtain ⟨i1, i2, i3, i4, i5⟩ := foldL_ok h h1 l hPl hs2.1
   have ihk := ih hPl hs2.1 k hk
   rw [foldL_snoc, cls_append]
   have hone : cls c k [r] = if c r k = 0 then [r] else [] := by
     by_cases e : c r k = 0 <;> simp [cls, e]
   rcases snoc_cases (foldL c (fun _ b => b) l) with e | ⟨m, o, e⟩
   · rw [e, foldStep_nil]
     have hl := i4.1 e
     subst hl
     rw [hone]; split <;> simp [cls]
   · rw [e] at i1 i2 ihk ⊢
     rw [foldStep_snoc]
     have i1' := List.pairwise_append.1 i1
     obtain ⟨Po, y, hy, hoy⟩ := i2 o (by simp)
     have Py := hPl y hy
     have hor : c o r ≤ 0 := h.trans o y r Po Py Pr (by omega) (hs2.2.2 y hy r (by simp))
     by_cases h0 : c o r = 0
     · rw [if_pos h0, cls_append, hone]
       by_cases hk0 : c r k = 0
       · rw [if_pos hk0, List.getLast?_append]
         have hm : cls c k m = [] := cls_nil fun x hx hxk => by
           have Px := (i2 x (by simp [hx])).1
           have hxo := i1'.2.2 x hx o (by simp)
           have := h.eqv Px Pr hk hxk hk0
           have := Ord.lt_of h Px Po Pr hxo (by omega)
           omega
         rw [hm]; simp
       · rw [if_neg hk0, List.append_nil, List.append_nil, ← ihk, cls_append]
         have : cls c k [o] = [] := cls_nil fun x hx hxk => by
           simp at hx; subst hx
           exact hk0 (h.eqv Pr hk Po (h.zero Po Pr h0) (h.zero Po hk hxk))
         rw [this, List.append_nil]
     · rw [if_neg h0, cls_append, hone]
       by_cases hk0 : c r k = 0
       · rw [if_pos hk0]
         have hm : cls c k (m ++ [o]) = [] := cls_nil fun x hx hxk => by
           have Px := (i2 x hx).1
           have hxr : c x r < 0 := by
             rcases List.mem_append.1 hx with q | q
             · exact Ord.lt_of h Px Po Pr (i1'.2.2 x q o (by simp)) (by omega)
             · simp at q; subst q; omega
           have := h.eqv Px Pr hk hxk hk0
           omega
         rw [hm, List.getLast?_append]; simp
       · rw [if_neg hk0, List.append_nil, List.append_nil]; exact ihk
end P3
end Go.Proofs.YtbjeejimedhniaaGreatDoor
