/- Contracts of the program's functions, as the walks of the law use them. -/
import Derived.Test.YtbjeejimedhniaaGreatDoorC15
import Derived.Test.YtbjeejimedhniaaGreatDoorC1
import Derived.BigRegion
import Derived.RegionTactic
namespace Go.Proofs.YtbjeejimedhniaaGreatDoor
namespace K26
open Go Go.RowKit
open KB KB2 K1 K3 K6 K7 K8 K14 K22 K23 K24 K25 Num
set_option linter.unusedVariables false
set_option linter.unusedSimpArgs false
set_option maxHeartbeats 2000000
set_option maxRecDepth 100000
/-- Bytes that are being read. -/
structure Rr (F : Nat → Prop) (w0 w : World) (g : Nat) (l : List Int) : Prop where
  ext : Ext w0 w
  ge : w0.heap.size ≤ g
  at_ : ∃ A c, w.heap[g]? = some (.cells #[.slice A l.length c, .bool false] 390 (0, 0)) ∧ rdU8.Sl F w0 A c l
theorem Rr.ext' {F : Nat → Prop} {w0 w w' : World} {g : Nat} {l : List Int} (h : Rr F w0 w g l) (k : Ext w w') : Rr F w0 w' g l := by
  obtain ⟨hE, hge, A, c, hb, hs⟩ := h
  exact ⟨hE.trans k, hge, A, c, k.blk hb, hs⟩
theorem Rr.keep' {F G : Nat → Prop} {w0 w w' : World} {g : Nat} {l : List Int} (h : Rr F w0 w g l) (k : Keep G w w') (h0 : ∀ i, G i → w0.heap.size ≤ i) (hg : ¬ G g) : Rr F w0 w' g l := by
  obtain ⟨hE, hge, A, c, hb, hs⟩ := h
  exact ⟨hE.keepNew k h0, hge, A, c, k.blk hg hb, hs⟩
theorem rNumber (F : Nat → Prop) (w0 : World) (g x : Nat) (rest l : List Int) (hl : l = pv x ++ rest) (hx : x ≤ 999999) (hll : l.length ≤ 1000000) (w : World) (h : Rr F w0 w g l) :
    Calls Tryz.prog 354 #[.pointer (some ⟨g, 0, none⟩)] w fun e w' => e = .returned (.int .i64 x) ∧ Rr F w0 w' g rest ∧ Keep (fun k => k = g) w w' := by
  obtain ⟨hE, hge, A, c, hb, hs⟩ := h
  have hlen : l.length = (pv x).length + rest.length := by rw [hl, List.length_append]
  have hp1 := pv_pos x
  obtain ⟨A2, hsl, hS⟩ := hs.suf elU8 (pv x).length rest.length ((pv x).length : Int) (by omega) rfl (by omega)
  have hdr : l.drop (pv x).length = rest := by rw [hl]; exact List.drop_left' rfl
  rw [hdr] at hS
  have hvc := fun W hW => varC F A c x rest l hl W (by omega) hW (by omega)
  have HLN : As (l.length = (pv x).length + rest.length) := ⟨hlen⟩
  have hpl : (pv x).length ≤ l.length := by omega
  have i0 : (0 : Int) ≤ ((pv x).length : Int) := by omega
  have i1 : ((pv x).length : Int) ≤ (l.length : Int) := by omega
  have i2 : (l.length : Int) ≤ 1000000 := by omega
  generalize (pv x).length = p at *
  have d0 : ((p : Int) == 0) = false := beq_eq_false_iff_ne.mpr (by omega)
  have d1 : decide ((999999 : Int) < (x : Int)) = false := decide_eq_false (by omega)
  have hwx : IntKind.i64.wrap (x : Int) = x := by rw [IntKind.wrap_i64]; omega
  have c0 := blk_cell hb 0
  have f0 := blk_froz hb 0
  clear hlen hdr hl
  go_enter Tryz.func354, Tryz.ntmps354
  go_wp2_with (fail)
  refine (hvc w (hs.ext hE)).mono ?_; rintro e w1 ⟨rfl, hE1⟩
  have hb1 := hE1.blk hb
  have e0 := blk_cell hb1 0
  have g0 := blk_froz hb1 0
  go_wp2
  go_ret
  exact ⟨rfl, ⟨Ext.setCell (a := ⟨g, 0, none⟩) (hE.trans hE1) hge _, hge, A2, _, blk_set hb1 0 _, hS⟩, (hE1.keep _).trans (Keep.setCell _ _ _ rfl)⟩
theorem rSchema (F F2 : Nat → Prop) (w0 : World) (g : Nat) (s : Sch) (hs : s.Ok) (rest l : List Int) (hl : l = pv (putSch s).length ++ (putSch s ++ rest)) (hll : l.length ≤ 1000000) (w : World) (h : Rr F w0 w g l) (hF2 : ∀ k, F2 k → (F k ∨ w0.heap.size ≤ k) ∧ k < w.heap.size) :
    Calls Tryz.prog 353 #[.pointer (some ⟨g, 0, none⟩)] w fun e w' => ∃ A c, e = .returned (schV A c s) ∧ (rdInt .i64).Sl (fun k => F2 k ∨ k = g) w' A c s.types ∧ Rr F w0 w' g rest ∧ Keep (fun k => k = g) w w' := by
  have hpl : (putSch s).length ≤ 68 := by rw [putSch, putN_length _ (nums_small hs), nums_length]; have := hs.n2; omega
  have hsz : g < w.heap.size := by obtain ⟨A, c, hb, _⟩ := h.at_; exact blk_lt hb
  have hbx := blk_new w (.cells #[.slice none 0 0, .int .i64 0, .int .i64 0, .int .i64 0] 27)
  have hEx := (Ext.refl w).alloc (.cells #[.slice none 0 0, .int .i64 0, .int .i64 0, .int .i64 0] 27)
  go_enter Tryz.func353, Tryz.ntmps353
  go_wp2_with (fail)
  generalize (w.alloc (.cells #[.slice none 0 0, .int .i64 0, .int .i64 0, .int .i64 0] 27)) = wa at *
  obtain ⟨x, hx⟩ : ∃ x, w.heap.size = x := ⟨_, rfl⟩
  rw [hx] at hbx hsz ⊢
  refine (rNumber F w0 g (putSch s).length (putSch s ++ rest) l hl (by omega) hll wa (h.ext' hEx)).mono ?_; rintro e w1 ⟨rfl, h1, k1⟩
  obtain ⟨hE1, hge, A1, c1, hb1, hs1⟩ := h1
  have hle1 := hs1.le
  have hmx1 := hs1.max
  have hbx1 := k1.blk (by omega : ¬ x = g) hbx
  obtain ⟨N, hN⟩ : ∃ N, (putSch s).length = N := ⟨_, rfl⟩
  obtain ⟨M, hM⟩ : ∃ M, (putSch s ++ rest).length = M := ⟨_, rfl⟩
  have hMN : M = N + rest.length := by rw [← hM, ← hN, List.length_append]
  obtain ⟨A2, hsl2, hS2⟩ := hs1.suf elU8 N rest.length (N : Int) (by omega) rfl (by omega)
  have hdr : (putSch s ++ rest).drop N = rest := List.drop_left' hN
  have htk : (putSch s ++ rest).take N = putSch s := List.take_left' hN
  have hpre := hs1.pre N
  rw [hdr] at hS2
  rw [htk] at hpre
  rw [hM] at hsl2 hb1
  rw [hN]
  have hxs := Nat.le_trans (Ext.size hE1) (Nat.le_refl _)
  have hpre1 := Rd.Sl.ext (Rd.Sl.narrow (by decide) hpre (G := fun k => F2 k ∨ k = g ∨ k = x) (fun k hk q => by
    have := h.ext.size
    rcases q with q | q | q
    · exact (hF2 k q).1.elim id (fun q => by omega)
    · omega
    · omega)) hE1
  have htS := takeSC (fun k => F2 k ∨ k = g ∨ k = x) A1 c1 s w1 (putSch s) rfl hpre1 hs (fun k q => by
    rcases q with q | q | q
    · exact Nat.lt_of_lt_of_le (hF2 k q).2 (Nat.le_trans hEx.size k1.size)
    · rw [q]; exact blk_lt hb1
    · rw [q]; exact blk_lt hbx1)
  rw [hN] at htS
  have c0 := blk_cell hb1 0
  have c1' := blk_cell hb1 1
  have j0 : (0 : Int) ≤ (N : Int) := by omega
  have j1 : (N : Int) ≤ (c1 : Int) := by omega
  have j2 : (N : Int) ≤ (M : Int) := by omega
  have d1 : decide ((M : Int) < (N : Int)) = false := decide_eq_false (by omega)
  have HMN := As.mk hMN
  clear hN hM hMN hdr htk hl
  go_wp2_with (fail)
  refine htS.mono ?_; rintro e w2 ⟨A3, c3, rfl, hsA, hE2⟩
  have hb2 := hE2.blk hb1
  have hbx2 := hE2.blk hbx1
  have hy := blk_new w2 (.cells #[.slice A3 s.types.length c3, .int .i64 s.keys, .int .i64 s.mode, .int .i64 s.grain] 27)
  have hE3 := (Ext.refl w2).alloc (.cells #[.slice A3 s.types.length c3, .int .i64 s.keys, .int .i64 s.mode, .int .i64 s.grain] 27)
  have hb3 := hE3.blk hb2
  have hbx3 := hE3.blk hbx2
  have hgy : ¬ w2.heap.size = g := by have := blk_lt hb2; omega
  have hxy : ¬ w2.heap.size = x := by have := blk_lt hbx2; omega
  have hgx : ¬ x = g := by omega
  have hgx' : ¬ g = x := by omega
  (have a0 := blk_cell (hb3) 0; have af0 := blk_froz (hb3) 0; have a1 := blk_cell (hb3) 1; have af1 := blk_froz (hb3) 1)
  (have y0 := blk_cell (hy) 0; have y1 := blk_cell (hy) 1; have y2 := blk_cell (hy) 2; have y3 := blk_cell (hy) 3)
  (have q0 := blk_cell (hbx3) 0; have qf0 := blk_froz (hbx3) 0; have q1 := blk_cell (hbx3) 1; have qf1 := blk_froz (hbx3) 1; have q2 := blk_cell (hbx3) 2; have qf2 := blk_froz (hbx3) 2; have q3 := blk_cell (hbx3) 3; have qf3 := blk_froz (hbx3) 3)
  clear c0 c1'
  go_wp2_with (fail)
  have K2 := (keep_set1 (w2.alloc (.cells #[.slice A3 s.types.length c3, .int .i64 s.keys, .int .i64 s.mode, .int .i64 s.grain] 27)) g 0 (.slice A2 rest.length (c1 - N))).trans (keep_set1 _ g 1 (.bool false))
  have hbg := blk_set (blk_set hb3 0 (.slice A2 rest.length (c1 - N))) 1 (.bool false)
  have P := put4 (K2.blk hgx hbx3) (.slice A3 s.types.length c3) (.int .i64 s.keys) (.int .i64 s.mode) (.int .i64 s.grain)
  have KW := K2.or P.2
  have hbg' := P.2.blk hgx' hbg
  (have e0 := blk_cell (P.1) 0; have e1 := blk_cell (P.1) 1; have e2 := blk_cell (P.1) 2; have e3 := blk_cell (P.1) 3)
  (try simp only [Exit.inBlock, Exit.then])
  refine bodyPost_ret (v := schV A3 c3 s) (by simp [results, Tryz.results353, go_sem, e0, e1, e2, e3, schV]) rfl ?_
  clear e0 e1 e2 e3 a0 af0 a1 af1 y0 y1 y2 y3
  have hsW := (Rd.Sl.ext hsA hE3).keep (KW.mono (fun k _ q => .inr q))
  have hw0 := h.ext.size
  refine ⟨A3, c3, rfl, hsW.narrow (by decide) (fun k _ q => q.elim .inl (fun q => .inr (.inl q))), ⟨((hE1.trans hE2).trans hE3).keepNew KW (fun i q => by rcases q with q | q <;> omega), hge, A2, _, hbg', hS2⟩, ?_⟩
  have K1 := ((k1.trans (hE2.keep _)).trans (hE3.keep _)).or KW
  exact ((hEx.keep _).trans K1).mono (fun k hk q => by rcases q with q | q | q <;> omega)
end K26
namespace K27
open Go Go.RowKit
open KB KB2 KB3 K1 K3 K6 K7 K8 K14 K22 K23 K24 K25 K26 Num
set_option linter.unusedVariables false
set_option linter.unusedSimpArgs false
set_option maxHeartbeats 2000000
set_option maxRecDepth 100000
/-- A record that is told: an addition. -/
theorem recAddC (F : Nat → Prop) (w0 : World) (g id : Nat) (hid : id ≤ 999999) (l : List Int) (hl : l = pv id ++ []) (hll : l.length ≤ 1000000) (w : World) (h : Rr F w0 w g l) :
    Calls Tryz.prog 322 #[.pointer (some ⟨g, 0, none⟩), .int .i64 2] w fun e w' => e = .returned (.agg #[.int .i64 2, .slice none 0 0, .int .i64 0, .int .i64 0, .int .i64 0, .slice none 0 0, .int .i64 id]) ∧ Rr F w0 w' g [] ∧ Keep (fun k => k = g) w w' := by
  have hsz : g < w.heap.size := by obtain ⟨A, c, hb, _⟩ := h.at_; exact blk_lt hb
  have hx1 := blk_new w (.cells #[.int .i64 0, .slice none 0 0, .int .i64 0, .int .i64 0, .int .i64 0, .slice none 0 0, .int .i64 0] 92)
  have hE1 := (Ext.refl w).alloc (.cells #[.int .i64 0, .slice none 0 0, .int .i64 0, .int .i64 0, .int .i64 0, .slice none 0 0, .int .i64 0] 92)
  have hx2 := blk_old (o' := .cells #[.int .i64 2, .slice none 0 0, .int .i64 0, .int .i64 0, .int .i64 0, .slice none 0 0, .int .i64 0] 92) hx1
  have hy2 := blk_new (w.alloc (.cells #[.int .i64 0, .slice none 0 0, .int .i64 0, .int .i64 0, .int .i64 0, .slice none 0 0, .int .i64 0] 92)) (.cells #[.int .i64 2, .slice none 0 0, .int .i64 0, .int .i64 0, .int .i64 0, .slice none 0 0, .int .i64 0] 92)
  have hE2 := hE1.alloc (.cells #[.int .i64 2, .slice none 0 0, .int .i64 0, .int .i64 0, .int .i64 0, .slice none 0 0, .int .i64 0] 92)
  rw [World.size_alloc] at hy2
  obtain ⟨A0, c0, hb0, _⟩ := h.at_
  have hb2 := hE2.blk hb0
  (have b0 := blk_cell (hb2) 0; have b1 := blk_cell (hb2) 1)
  go_enter Tryz.func322, Tryz.ntmps322
  go_wp2_with (fail)
  generalize ((w.alloc (.cells #[.int .i64 0, .slice none 0 0, .int .i64 0, .int .i64 0, .int .i64 0, .slice none 0 0, .int .i64 0] 92)).alloc (.cells #[.int .i64 2, .slice none 0 0, .int .i64 0, .int .i64 0, .int .i64 0, .slice none 0 0, .int .i64 0] 92)) = w2 at *
  obtain ⟨x, hx⟩ : ∃ x, w.heap.size = x := ⟨_, rfl⟩
  rw [hx] at hx2 hy2 hsz ⊢
  refine (rNumber F w0 g id [] l hl hid hll w2 (h.ext' hE2)).mono ?_; rintro e w3 ⟨rfl, h3, k3⟩
  have hx3 := k3.blk (by omega : ¬ x = g) hx2
  have hy3 := k3.blk (by omega : ¬ x + 1 = g) hy2
  clear b0 b1
  (have p0 := blk_cell (hx3) 0; have pf0 := blk_froz (hx3) 0; have p1 := blk_cell (hx3) 1; have pf1 := blk_froz (hx3) 1; have p2 := blk_cell (hx3) 2; have pf2 := blk_froz (hx3) 2; have p3 := blk_cell (hx3) 3; have pf3 := blk_froz (hx3) 3; have p4 := blk_cell (hx3) 4; have pf4 := blk_froz (hx3) 4; have p5 := blk_cell (hx3) 5; have pf5 := blk_froz (hx3) 5; have p6 := blk_cell (hx3) 6; have pf6 := blk_froz (hx3) 6)
  (have q0 := blk_cell (hy3) 0; have qf0 := blk_froz (hy3) 0; have q1 := blk_cell (hy3) 1; have qf1 := blk_froz (hy3) 1; have q2 := blk_cell (hy3) 2; have qf2 := blk_froz (hy3) 2; have q3 := blk_cell (hy3) 3; have qf3 := blk_froz (hy3) 3; have q4 := blk_cell (hy3) 4; have qf4 := blk_froz (hy3) 4; have q5 := blk_cell (hy3) 5; have qf5 := blk_froz (hy3) 5; have q6 := blk_cell (hy3) 6; have qf6 := blk_froz (hy3) 6)
  have n1 : ¬ x + 1 = x := by omega
  have n2 : ¬ x = x + 1 := by omega
  go_wp2_with (fail)
  have K1 := keep_set1 w3 (x + 1) 6 (.int .i64 id)
  have P := put7 (K1.blk n2 hx3) (.int .i64 2) (.slice none 0 0) (.int .i64 0) (.int .i64 0) (.int .i64 0) (.slice none 0 0) (.int .i64 id)
  have KW := K1.or P.2
  (have e0 := blk_cell (P.1) 0; have e1 := blk_cell (P.1) 1; have e2 := blk_cell (P.1) 2; have e3 := blk_cell (P.1) 3; have e4 := blk_cell (P.1) 4; have e5 := blk_cell (P.1) 5; have e6 := blk_cell (P.1) 6)
  (try simp only [Exit.inBlock, Exit.then])
  refine bodyPost_ret (v := .agg #[.int .i64 2, .slice none 0 0, .int .i64 0, .int .i64 0, .int .i64 0, .slice none 0 0, .int .i64 id]) (by simp [results, Tryz.results322, go_sem, e0, e1, e2, e3, e4, e5, e6]) rfl ?_
  obtain ⟨hE3, hge3, A3, c3, hb3, hs3⟩ := h3
  have hw0 := h.ext.size
  refine ⟨rfl, ⟨hE3.keepNew KW (fun i q => by rcases q with q | q <;> omega), hge3, A3, c3, KW.blk (by omega : ¬ (g = x + 1 ∨ g = x)) hb3, hs3⟩, ?_⟩
  exact (((hE2.keep _).trans k3).or KW).mono (fun k hk q => by rcases q with q | q | q <;> omega)
/-- A record that is told: a head. -/
theorem recHeadC (F F2 : Nat → Prop) (w0 : World) (g id : Nat) (s : Sch) (hs : s.Ok) (ids : List Int) (hn : ids.length ≤ 40) (hv : ∀ n ∈ ids, 0 ≤ n ∧ n ≤ 999999) (hid : id ≤ 999999) (l : List Int) (hl : l = pv (putSch s).length ++ (putSch s ++ (pv id ++ (pv ids.length ++ putN ids)))) (hll : l.length ≤ 1000000) (w : World) (h : Rr F w0 w g l)
    (hF2 : ∀ k, F2 k → (F k ∨ w0.heap.size ≤ k) ∧ k < w.heap.size) :
    Calls Tryz.prog 322 #[.pointer (some ⟨g, 0, none⟩), .int .i64 1] w fun e w' => ∃ A c Ai ci, e = .returned (recV 1 A c s Ai ci ids id) ∧ (rdInt .i64).Sl (fun k => F2 k ∨ k = g) w' A c s.types ∧ (rdInt .i64).Sl (fun k => F2 k ∨ k = g) w' Ai ci ids ∧ Rr F w0 w' g [] ∧ Keep (fun k => k = g) w w' := by
  have hsz : g < w.heap.size := by obtain ⟨A, c, hb, _⟩ := h.at_; exact blk_lt hb
  have hw0 := h.ext.size
  have hgw0 := h.ge
  have hx1 := blk_new w (.cells #[.int .i64 0, .slice none 0 0, .int .i64 0, .int .i64 0, .int .i64 0, .slice none 0 0, .int .i64 0] 92)
  have hE1 := (Ext.refl w).alloc (.cells #[.int .i64 0, .slice none 0 0, .int .i64 0, .int .i64 0, .int .i64 0, .slice none 0 0, .int .i64 0] 92)
  have hx2 := blk_old (o' := .cells #[.int .i64 1, .slice none 0 0, .int .i64 0, .int .i64 0, .int .i64 0, .slice none 0 0, .int .i64 0] 92) hx1
  have hy2 := blk_new (w.alloc (.cells #[.int .i64 0, .slice none 0 0, .int .i64 0, .int .i64 0, .int .i64 0, .slice none 0 0, .int .i64 0] 92)) (.cells #[.int .i64 1, .slice none 0 0, .int .i64 0, .int .i64 0, .int .i64 0, .slice none 0 0, .int .i64 0] 92)
  have hE2 := hE1.alloc (.cells #[.int .i64 1, .slice none 0 0, .int .i64 0, .int .i64 0, .int .i64 0, .slice none 0 0, .int .i64 0] 92)
  rw [World.size_alloc] at hy2
  go_enter Tryz.func322, Tryz.ntmps322
  go_wp2_with (fail)
  generalize ((w.alloc (.cells #[.int .i64 0, .slice none 0 0, .int .i64 0, .int .i64 0, .int .i64 0, .slice none 0 0, .int .i64 0] 92)).alloc (.cells #[.int .i64 1, .slice none 0 0, .int .i64 0, .int .i64 0, .int .i64 0, .slice none 0 0, .int .i64 0] 92)) = w2 at *
  obtain ⟨x, hx⟩ : ∃ x, w.heap.size = x := ⟨_, rfl⟩
  rw [hx] at hx2 hy2 hsz hw0 ⊢
  have hy2l := blk_lt hy2
  refine (rSchema F (fun k => F2 k ∨ k = x ∨ k = x + 1) w0 g s hs (pv id ++ (pv ids.length ++ putN ids)) l hl hll w2 (h.ext' hE2) (fun k q => by
    rcases q with q | q | q
    · have := hF2 k q; exact ⟨this.1, by omega⟩
    · exact ⟨.inr (by omega), by omega⟩
    · exact ⟨.inr (by omega), by omega⟩)).mono ?_; rintro e w3 ⟨A3, c3, rfl, hs3, h3, k3⟩
  have hx3 := k3.blk (by omega : ¬ x = g) hx2
  have hy3 := k3.blk (by omega : ¬ x + 1 = g) hy2
  obtain ⟨A0, c0, hb0, _⟩ := h3.at_
  have hgs := blk_lt hb0
  have n1 : ¬ x + 1 = x := by omega
  have n2 : ¬ x = x + 1 := by omega
  have n3 : ¬ g = x + 1 := by omega
  have n4 : ¬ x + 1 = g := by omega
  (have q0 := blk_cell (hy3) 0; have qf0 := blk_froz (hy3) 0; have q1 := blk_cell (hy3) 1; have qf1 := blk_froz (hy3) 1; have q2 := blk_cell (hy3) 2; have qf2 := blk_froz (hy3) 2; have q3 := blk_cell (hy3) 3; have qf3 := blk_froz (hy3) 3; have q4 := blk_cell (hy3) 4; have qf4 := blk_froz (hy3) 4; have q5 := blk_cell (hy3) 5; have qf5 := blk_froz (hy3) 5; have q6 := blk_cell (hy3) 6; have qf6 := blk_froz (hy3) 6)
  (have b0 := blk_cell (hb0) 0; have bf0 := blk_froz (hb0) 0; have b1 := blk_cell (hb0) 1; have bf1 := blk_froz (hb0) 1)
  go_wp2_with (fail)
  have y1 := blk_set hy3 1 (.slice A3 s.types.length c3)
  have y2 := blk_set y1 2 (.int .i64 s.keys)
  have y3 := blk_set y2 3 (.int .i64 s.mode)
  have y4 := blk_set y3 4 (.int .i64 s.grain)
  have K4 := (((keep_set1 w3 (x + 1) 1 (.slice A3 s.types.length c3)).trans (keep_set1 _ (x + 1) 2 (.int .i64 s.keys))).trans (keep_set1 _ (x + 1) 3 (.int .i64 s.mode))).trans (keep_set1 _ (x + 1) 4 (.int .i64 s.grain))
  generalize ((((w3.setCell ⟨x + 1, 1, none⟩ (.slice A3 s.types.length c3)).setCell ⟨x + 1, 2, none⟩ (.int .i64 s.keys)).setCell ⟨x + 1, 3, none⟩ (.int .i64 s.mode)).setCell ⟨x + 1, 4, none⟩ (.int .i64 s.grain)) = w4 at *
  have y4' : w4.heap[x + 1]? = some (.cells #[.int .i64 1, .slice A3 s.types.length c3, .int .i64 s.keys, .int .i64 s.mode, .int .i64 s.grain, .slice none 0 0, .int .i64 0] 92 (0, 0)) := y4
  clear y1 y2 y3 y4
  clear q0 qf0 q1 qf1 q2 qf2 q3 qf3 q4 qf4 q5 qf5 q6 qf6
  have h4 := h3.keep' K4 (fun i q => by omega) n3
  have hs4 := hs3.keep (K4.mono (fun k _ q => .inl (.inr (.inr q))))
  obtain ⟨A5, c5, hb5, _⟩ := h4.at_
  (have b0 := blk_cell (hb5) 0; have b1 := blk_cell (hb5) 1)
  go_wp2_with (fail)
  refine (rNumber F w0 g id (pv ids.length ++ putN ids) _ rfl hid (by rw [hl] at hll; simp only [List.length_append] at hll ⊢; omega) w4 h4).mono ?_; rintro e w5 ⟨rfl, h5, k5⟩
  have y5 := k5.blk n4 y4'
  have hs5 := hs4.keep (k5.mono (fun k _ q => .inr q))
  obtain ⟨A6, c6, hb6, _⟩ := h5.at_
  clear b0 b1
  (have b0 := blk_cell (hb6) 0; have b1 := blk_cell (hb6) 1)
  (have q0 := blk_cell (y5) 0; have qf0 := blk_froz (y5) 0; have q1 := blk_cell (y5) 1; have qf1 := blk_froz (y5) 1; have q2 := blk_cell (y5) 2; have qf2 := blk_froz (y5) 2; have q3 := blk_cell (y5) 3; have qf3 := blk_froz (y5) 3; have q4 := blk_cell (y5) 4; have qf4 := blk_froz (y5) 4; have q5 := blk_cell (y5) 5; have qf5 := blk_froz (y5) 5; have q6 := blk_cell (y5) 6; have qf6 := blk_froz (y5) 6)
  go_wp2_with (fail)
  have y6 := blk_set y5 6 (.int .i64 id)
  have K6 := keep_set1 w5 (x + 1) 6 (.int .i64 id)
  generalize (w5.setCell ⟨x + 1, 6, none⟩ (.int .i64 id)) = w6 at *
  have y6' : w6.heap[x + 1]? = some (.cells #[.int .i64 1, .slice A3 s.types.length c3, .int .i64 s.keys, .int .i64 s.mode, .int .i64 s.grain, .slice none 0 0, .int .i64 id] 92 (0, 0)) := y6
  clear y6 b0 b1
  clear q0 qf0 q1 qf1 q2 qf2 q3 qf3 q4 qf4 q5 qf5 q6 qf6
  have h6 := h5.keep' K6 (fun i q => by omega) n3
  have hs6 := hs5.keep (K6.mono (fun k _ q => .inl (.inr (.inr q))))
  obtain ⟨A7, c7, hb7, _⟩ := h6.at_
  (have b0 := blk_cell (hb7) 0; have b1 := blk_cell (hb7) 1)
  go_wp2_with (fail)
  refine (rNumber F w0 g ids.length (putN ids) _ rfl (by omega) (by rw [hl] at hll; simp only [List.length_append] at hll ⊢; omega) w6 h6).mono ?_; rintro e w7 ⟨rfl, h7, k7⟩
  have y7 := k7.blk n4 y6'
  have hs7 := hs6.keep (k7.mono (fun k _ q => .inr q))
  have hx7 := k7.blk (by omega : ¬ x = g) (K6.blk n2 (k5.blk (by omega : ¬ x = g) (K4.blk n2 hx3)))
  clear b0 b1
  have hmn : min (ids.length : Int) 40 = (ids.length : Int) := by omega
  go_wp2_with (fail)
  have hll2 : (putN ids).length ≤ 1000000 := by rw [hl] at hll; simp only [List.length_append] at hll; omega
  clear hmn hl hll hs3 hs4 hs5 hs6 h3 h4 h5 h6 hb0 hb5 hb6 hb7 y4' y5 y6' hx3 hy3
  go_loopw [33] (fun i wr => ∃ (k : Nat) (v : Value), i = .int .i64 k ∧ k ≤ ids.length ∧ Rr F w0 wr g (putN (ids.drop k)) ∧ wr.heap[x + 1]? = some (.cells #[.int .i64 1, .slice A3 s.types.length c3, .int .i64 s.keys, .int .i64 s.mode, .int .i64 s.grain, v, .int .i64 id] 92 (0, 0)) ∧ (rdInt .i64).Own (fun _ => False) w7.heap.size 3 wr v (ids.take k) ∧ Keep (fun i => i = g ∨ i = x + 1) w7 wr) (fun i _ => ids.length - (intOf i).toNat)
  case atStart => exact ⟨0, _, by go_num, Nat.zero_le _, h7, y7, Rd.Own.nil _ _ _ _ _, Keep.refl _ _⟩
  case round =>
    obtain ⟨k, v, rfl, hkl, hR, hy, hown, hK⟩ := hrel
    by_cases hlt : k < ids.length
    · have hvk := hv _ (List.getElem_mem hlt)
      obtain ⟨n, hn1⟩ : ∃ n : Nat, ids[k] = n := ⟨ids[k].toNat, by omega⟩
      have hT : putN (ids.drop k) = pv n ++ putN (ids.drop (k + 1)) := by rw [List.drop_eq_getElem_cons hlt, putN_cons, hn1]; rfl
      have hsp : putN ids = putN (ids.take k) ++ putN (ids.drop k) := by rw [putN, putN, putN, ← List.flatten_append, ← List.map_append, List.take_append_drop]
      have HL : As ((putN (ids.drop k)).length ≤ 1000000) := ⟨by rw [hsp, List.length_append] at hll2; omega⟩
      have HT := As.mk hT
      have HTK := As.mk (take_snoc ids hlt)
      have HN := As.mk hn1
      have hn9 : n ≤ 999999 := by omega
      have htl : (ids.take k).length ≤ 40 := by rw [List.length_take]; omega
      obtain ⟨T, hTT⟩ : ∃ T, ids.take k = T := ⟨_, rfl⟩
      rw [hTT] at htl hown
      have HTT := As.mk hTT
      clear hTT
      obtain ⟨Av, cv, rfl, _⟩ := hown.shut (F := fun _ => False) (fun _ h => h.elim)
      have c5 := blk_cell hy 5
      have f5 := blk_froz hy 5
      replace c5 : wr.cell? ⟨x + 1, 5, none⟩ = some (.slice Av T.length cv) := c5
      have hxl := blk_lt hy
      have hx7l := blk_lt y7
      have hgl7 : g < w7.heap.size := by obtain ⟨_, _, q, _⟩ := h7.at_; exact blk_lt q
      clear hT hn1 hvk hsp
      go_wp2_with (fail)
      go_region_law (first | (go_simp; go_at_call 354; refine (rNumber F w0 g n (putN (ids.drop (k + 1))) _ HT.out hn9 HL.out _ (hR.ext' (by (repeat (first | with_reducible refine Ext.drew ?_ | with_reducible refine Ext.drewN ?_ _ | with_reducible refine Ext.alloc ?_ _)); first | with_reducible assumption | with_reducible exact Ext.refl _))).mono ?_; rintro e w8 ⟨rfl, h8, k8⟩; have k8' : Keep (fun i => i = g) wr w8 := Keep.pre k8 (by (repeat (first | with_reducible refine Ext.drew ?_ | with_reducible refine Ext.drewN ?_ _ | with_reducible refine Ext.alloc ?_ _)); first | with_reducible assumption | with_reducible exact Ext.refl _); have y8 := k8'.blk n4 hy; have d5 : w8.cell? ⟨x + 1, 5, none⟩ = some (.slice Av T.length cv) := blk_cell y8 5; have df5 := blk_froz y8 5; have e5 : (w8.alloc (.cells #[.int .i64 n] 3)).cell? ⟨x + 1, 5, none⟩ = some (.slice Av T.length cv) := blk_cell (blk_old y8) 5; have hown8 := hown.free (intFree .i64) (G := fun _ => False) (w' := w8) (fun i hi => k8'.block i (hown.ge i hi).2 (by have := (hown.ge i hi).1; omega)); dsimp only) | (refine step_pushAt rfl (.tmp 36) (.tmp 39) 25 rfl (rdInt .i64) elInt (v := .slice Av T.length cv) (by first | rfl | exact cell_get c5 | exact cell_get d5 | exact cell_get e5) (hown8.ext (by (repeat (first | with_reducible refine Ext.drew ?_ | with_reducible refine Ext.drewN ?_ _ | with_reducible refine Ext.alloc ?_ _)); first | with_reducible assumption | with_reducible exact Ext.refl _)) (by rfl) (by exact heap_alloc_new w8 _) (y := (n : Int)) rfl (by omega) (by unfold maxLen; omega) (by have := hK.size; have := k8'.size; simp; omega) ?_; intro v' w9 hown9 hg9 hat9; obtain ⟨A9, c9, rfl, _⟩ := hown9.shut (F := fun _ => False) (fun _ h => h.elim); have y9 := (hg9.block (x + 1) (by have := k8'.size; simp; omega) (fun e => by have := (hown8.ge _ e.symm).1; omega)).trans (Ext.blk (w := w8) (by (repeat (first | with_reducible refine Ext.drew ?_ | with_reducible refine Ext.drewN ?_ _ | with_reducible refine Ext.alloc ?_ _)); first | with_reducible assumption | with_reducible exact Ext.refl _) y8); have d9 := blk_cell y9 5; have df9 := blk_froz y9 5))
      all_goals
        (try simp only [Exit.inBlock, Exit.then])
        have hw7s : w0.heap.size ≤ w7.heap.size := Nat.le_trans hgw0 (Nat.le_of_lt hgl7)
        have KA := (Keep.of_grown (F := fun i => w7.heap.size ≤ i) hg9 (fun i hi _ => (hown8.ge i hi).1)).or (keep_set1 w9 (x + 1) 5 (.slice A9 (T ++ [(n : Int)]).length c9))
        have KB' := Keep.pre (a := w8) KA (by (repeat (first | with_reducible refine Ext.drew ?_ | with_reducible refine Ext.drewN ?_ _ | with_reducible refine Ext.alloc ?_ _)); first | with_reducible assumption | with_reducible exact Ext.refl _)
        have hRw := h8.keep' KB' (fun i q => by rcases q with q | q <;> omega) (by omega)
        have hyw := blk_set y9 5 (.slice A9 (T ++ [(n : Int)]).length c9)
        have how := own_set (intFree .i64) (j := 5) (u := .slice A9 (T ++ [(n : Int)]).length c9) hown9 hx7l
        have HTK' : ids.take (k + 1) = T ++ [(n : Int)] := by rw [HTK.out, HN.out, HTT.out]
        rw [List.length_append] at hRw hyw how KB'
        rw [← HTK'] at how
        go_wp2
        go_roundw
        case rel => exact ⟨k + 1, _, by go_num, by omega, hRw, hyw, how, ((hK.or k8').or KB').mono (fun i hi q => by rcases q with (q | q) | q | q <;> omega)⟩
        case measure => simp [intOf]; omega
    · obtain rfl : k = ids.length := by omega
      rw [List.take_length] at hown
      rw [List.drop_length] at hR
      obtain ⟨Av, cv, rfl, _⟩ := hown.shut (F := fun _ => False) (fun _ h => h.elim)
      have hxr := hK.blk (by omega : ¬ (x = g ∨ x = x + 1)) hx7
      (have q0 := blk_cell (hy) 0; have q1 := blk_cell (hy) 1; have q2 := blk_cell (hy) 2; have q3 := blk_cell (hy) 3; have q4 := blk_cell (hy) 4; have q5 := blk_cell (hy) 5; have q6 := blk_cell (hy) 6)
      (have p0 := blk_cell (hxr) 0; have pf0 := blk_froz (hxr) 0; have p1 := blk_cell (hxr) 1; have pf1 := blk_froz (hxr) 1; have p2 := blk_cell (hxr) 2; have pf2 := blk_froz (hxr) 2; have p3 := blk_cell (hxr) 3; have pf3 := blk_froz (hxr) 3; have p4 := blk_cell (hxr) 4; have pf4 := blk_froz (hxr) 4; have p5 := blk_cell (hxr) 5; have pf5 := blk_froz (hxr) 5; have p6 := blk_cell (hxr) 6; have pf6 := blk_froz (hxr) 6)
      have hx7l := blk_lt y7
      have hgl7 : g < w7.heap.size := by obtain ⟨_, _, q, _⟩ := h7.at_; exact blk_lt q
      go_wp2_with (fail)
      have P := put7 hxr (.int .i64 1) (.slice A3 s.types.length c3) (.int .i64 s.keys) (.int .i64 s.mode) (.int .i64 s.grain) (.slice Av ids.length cv) (.int .i64 id)
      (have e0 := blk_cell (P.1) 0; have e1 := blk_cell (P.1) 1; have e2 := blk_cell (P.1) 2; have e3 := blk_cell (P.1) 3; have e4 := blk_cell (P.1) 4; have e5 := blk_cell (P.1) 5; have e6 := blk_cell (P.1) 6)
      (try simp only [Exit.inBlock, Exit.then])
      refine bodyPost_ret (v := recV 1 A3 c3 s Av cv ids id) (by simp [results, Tryz.results322, go_sem, e0, e1, e2, e3, e4, e5, e6]) rfl ?_
      have how := hown.free (intFree .i64) (G := fun k => F2 k ∨ k = g) (fun i hi => P.2.block i (hown.ge i hi).2 (by have := (hown.ge i hi).1; omega))
      obtain ⟨A9, c9, he, hs9⟩ := how.shut (F := fun k => F2 k ∨ k = g) (fun k q => by rcases q with q | q; (· have := (hF2 k q).2; have := blk_lt y7; omega); omega)
      simp only [Value.slice.injEq, true_and] at he
      obtain ⟨rfl, rfl⟩ := he
      refine ⟨A3, c3, Av, cv, rfl, ((hs7.keep (hK.mono (fun i _ q => by rcases q with q | q; exact .inr q; exact .inl (.inr (.inr q))))).keep (P.2.mono (fun i _ q => .inl (.inr (.inl q))))).narrow (by decide) (fun i _ q => by rcases q with q | q; exact .inl (.inl q); exact .inr q), hs9, hR.keep' P.2 (fun i q => by omega) (by omega), ?_⟩
      exact (((((((Keep.pre k3 hE2).or K4).or k5).or K6).or k7).or hK).or P.2).mono (fun i hi q => by rcases q with (((((q | q) | q) | q) | q) | q | q) | q <;> omega)
end K27
namespace K28
open Go Go.RowKit
open KB KB2 KB3 K1 K3 K6 K7 K8 K9 K14 K22 K23 K24 K25 K26 K27 Num
set_option linter.unusedVariables false
set_option linter.unusedSimpArgs false
set_option maxHeartbeats 2000000
set_option maxRecDepth 100000
theorem takeAddC (F : Nat → Prop) (A : Option Addr) (c : Nat) (id : Nat) (hid : id ≤ 999999) (r l : List Int) (hl : l = recAdd id ++ r) (w : World) (hA : rdU8.Sl F w A c l) (hn : l.length ≤ 1000000) (hF : ∀ k, F k → k < w.heap.size) :
    Calls Tryz.prog 260 #[.slice A l.length c] w fun e w' => e = .returned (.tuple #[.agg #[.int .i64 2, .slice none 0 0, .int .i64 0, .int .i64 0, .int .i64 0, .slice none 0 0, .int .i64 id], .int .i64 (recAdd id).length, .int .i64 0]) ∧ Ext w w' := by
  have hp := pv_le10 id (by omega)
  have hbl : (bodyAdd id).length = (pv id).length + 1 := by simp [bodyAdd]
  have hx0 := blk_new w (.cells #[.int .i64 0, .slice none 0 0, .int .i64 0, .int .i64 0, .int .i64 0, .slice none 0 0, .int .i64 0] 92)
  have hE0 := (Ext.refl w).alloc (.cells #[.int .i64 0, .slice none 0 0, .int .i64 0, .int .i64 0, .int .i64 0, .slice none 0 0, .int .i64 0] 92)
  have huf := fun W hW hF => unframeC F A c (bodyAdd id) r l hl W hW (by omega) (by omega) hF
  have htk : l.take (recAdd id).length = recAdd id := by rw [hl]; exact List.take_left' rfl
  have hrl : (recAdd id).length ≤ l.length := by rw [hl, List.length_append]; omega
  have hle := hA.le
  have hmx := hA.max
  have hfr : (frame (bodyAdd id)).length = (recAdd id).length := rfl
  rw [hfr] at huf
  have HB : As ((bodyAdd id).drop 1 = pv id ++ []) := ⟨by simp [bodyAdd]⟩
  have HB0 : As (∃ h : 0 < (bodyAdd id).length, (bodyAdd id)[0] = 2) := ⟨⟨by omega, by simp [bodyAdd]⟩⟩
  have hpre := hA.pre (recAdd id).length
  rw [htk] at hpre
  have HPL := As.mk (show (recAdd id).length = (frame (bodyAdd id)).length from rfl)
  obtain ⟨N, hN⟩ : ∃ N, (recAdd id).length = N := ⟨_, rfl⟩
  rw [hN] at huf hrl
  have HN := As.mk hN
  rw [hbl] at huf
  have HM := As.mk hbl
  obtain ⟨q, hq⟩ : ∃ q, (pv id).length = q := ⟨_, rfl⟩
  rw [hq] at huf hp
  have HQ := As.mk hq
  have i0 : (0 : Int) ≤ (N : Int) := by omega
  have i1 : (N : Int) ≤ (c : Int) := by omega
  have d0 : ((q : Int) + 1 == 0) = false := beq_eq_false_iff_ne.mpr (by omega)
  clear htk hfr hl hN hbl hq
  go_enter Tryz.func260, Tryz.ntmps260
  go_wp2_with (fail)
  generalize (w.alloc (.cells #[.int .i64 0, .slice none 0 0, .int .i64 0, .int .i64 0, .int .i64 0, .slice none 0 0, .int .i64 0] 92)) = w0 at *
  obtain ⟨x, hx⟩ : ∃ x, w.heap.size = x := ⟨_, rfl⟩
  rw [hx] at hx0 ⊢
  have hxw : w.heap.size ≤ x := Nat.le_of_eq hx
  refine (huf w0 (hA.ext hE0) (FExt hF hE0)).mono ?_; rintro e w1 ⟨A1, c1, rfl, hs1, hE1⟩
  have hEw := hE0.trans hE1
  have hle1 := hs1.le
  obtain ⟨b, o, rfl, hb0⟩ := int_get hs1 HB0.out.choose
  rw [HB0.out.choose_spec, Nat.add_zero] at hb0
  obtain ⟨A2, hsl2, hS2⟩ := hs1.suf elU8 1 q 1 (by rw [HM.out]; omega) rfl (by rw [HM.out, HQ.out]; omega)
  rw [HM.out, HQ.out] at hsl2 hle1
  rw [HB.out] at hS2
  have hg0 := blk_new w1 (.cells #[.slice A2 q (c1 - 1), .bool false] 390)
  have hE2 := (Ext.refl w1).alloc (.cells #[.slice A2 q (c1 - 1), .bool false] 390)
  have hb2 := hE2.cell hb0
  obtain ⟨g, hg⟩ : ∃ g, w1.heap.size = g := ⟨_, rfl⟩
  rw [hg] at hg0
  have HG := As.mk hg
  clear hg hb0
  go_wp2_with (fail)
  rw [HG.out]
  have hRr : Rr F w1 (w1.alloc (.cells #[.slice A2 q (c1 - 1), .bool false] 390)) g (pv id ++ []) := ⟨hE2, Nat.le_of_eq HG.out, A2, c1 - 1, by rw [List.append_nil, HQ.out]; exact hg0, hS2⟩
  refine (recAddC F w1 g id hid (pv id ++ []) rfl (by rw [List.append_nil, HQ.out]; omega) _ hRr).mono ?_; rintro e w3 ⟨rfl, h3, k3⟩
  have hgl3 : g < w3.heap.size := Nat.lt_of_lt_of_le (blk_lt hg0) k3.size
  have hE3 : Ext w1 w3 := h3.ext
  obtain ⟨A3, c3, hb3, _⟩ := h3.at_
  have hxg : x < g := by have := blk_lt hx0; have := hE1.size; have := HG.out; omega
  have hx3 := k3.blk (by omega : ¬ x = g) (hE2.blk (hE1.blk hx0))
  have hy := blk_new w3 (.cells #[.int .i64 2, .slice none 0 0, .int .i64 0, .int .i64 0, .int .i64 0, .slice none 0 0, .int .i64 id] 92)
  have hE4 := (Ext.refl w3).alloc (.cells #[.int .i64 2, .slice none 0 0, .int .i64 0, .int .i64 0, .int .i64 0, .slice none 0 0, .int .i64 id] 92)
  have hyx : ¬ w3.heap.size = x := by have := hE3.size; have := HG.out; omega
  (have y0 := blk_cell (hy) 0; have y1 := blk_cell (hy) 1; have y2 := blk_cell (hy) 2; have y3 := blk_cell (hy) 3; have y4 := blk_cell (hy) 4; have y5 := blk_cell (hy) 5; have y6 := blk_cell (hy) 6)
  go_wp2_with (fail)
  refine (putAddC F id hid _ (FExt hF ((hEw.trans hE3).trans hE4))).mono ?_; rintro e w5 ⟨A5, c5, rfl, hs5, hE5⟩
  have hE45 := hE4.trans hE5
  have hE5w := (hEw.trans hE3).trans hE45
  have hbe := bytesEqC F A5 A c5 c (recAdd id) w5 hs5 (hpre.ext hE5w)
  rw [HN.out] at hbe ⊢
  have hb5 := hE45.blk hb3
  have hy5 := hE5.blk hy
  have hx5 := hE45.blk hx3
  clear y0 y1 y2 y3 y4 y5 y6
  (have b0 := blk_cell (hb5) 0; have b1 := blk_cell (hb5) 1)
  (have y0 := blk_cell (hy5) 0; have y1 := blk_cell (hy5) 1; have y2 := blk_cell (hy5) 2; have y3 := blk_cell (hy5) 3; have y4 := blk_cell (hy5) 4; have y5 := blk_cell (hy5) 5; have y6 := blk_cell (hy5) 6)
  (have p0 := blk_cell (hx5) 0; have pf0 := blk_froz (hx5) 0; have p1 := blk_cell (hx5) 1; have pf1 := blk_froz (hx5) 1; have p2 := blk_cell (hx5) 2; have pf2 := blk_froz (hx5) 2; have p3 := blk_cell (hx5) 3; have pf3 := blk_froz (hx5) 3; have p4 := blk_cell (hx5) 4; have pf4 := blk_froz (hx5) 4; have p5 := blk_cell (hx5) 5; have pf5 := blk_froz (hx5) 5; have p6 := blk_cell (hx5) 6; have pf6 := blk_froz (hx5) 6)
  go_wp2_with (fail)
  refine hbe.mono ?_; rintro e w' ⟨rfl, rfl⟩
  go_wp2_with (fail)
  have P := put7 hx5 (.int .i64 2) (.slice none 0 0) (.int .i64 0) (.int .i64 0) (.int .i64 0) (.slice none 0 0) (.int .i64 id)
  (have e0 := blk_cell (P.1) 0; have e1 := blk_cell (P.1) 1; have e2 := blk_cell (P.1) 2; have e3 := blk_cell (P.1) 3; have e4 := blk_cell (P.1) 4; have e5 := blk_cell (P.1) 5; have e6 := blk_cell (P.1) 6)
  (try simp only [Exit.inBlock, Exit.then])
  refine bodyPost_ret (v := .tuple #[.agg #[.int .i64 2, .slice none 0 0, .int .i64 0, .int .i64 0, .int .i64 0, .slice none 0 0, .int .i64 id], .int .i64 N, .int .i64 0]) (by simp [results, Tryz.results260, go_sem, e0, e1, e2, e3, e4, e5, e6]) rfl ?_
  exact ⟨by rw [HN.out], hE5w.keepNew P.2 (fun i q => by omega)⟩
def restHead (s : Sch) (ids : List Int) (id : Nat) : List Int := pv (putSch s).length ++ (putSch s ++ (pv id ++ (pv ids.length ++ putN ids)))
theorem takeHeadC (F : Nat → Prop) (A : Option Addr) (c : Nat) (s : Sch) (hs : s.Ok) (ids : List Int) (hni : ids.length ≤ 40) (hv : ∀ n ∈ ids, 0 ≤ n ∧ n ≤ 999999) (id : Nat) (hid : id ≤ 999999) (r l : List Int) (hl : l = recHead s ids id ++ r) (w : World) (hA : rdU8.Sl F w A c l) (hn : l.length ≤ 1000000) (hF : ∀ k, F k → k < w.heap.size) :
    Calls Tryz.prog 260 #[.slice A l.length c] w fun e w' => ∃ As cs Ai ci, e = .returned (.tuple #[recV 1 As cs s Ai ci ids id, .int .i64 (recHead s ids id).length, .int .i64 0]) ∧ SchAt F w' As cs s ∧ (rdInt .i64).Sl F w' Ai ci ids ∧ Ext w w' := by
  have hp : (restHead s ids id).length ≤ 1000 := by
    have hp := pv_le10 id (by omega)
    have hp2 := pv_le10 ids.length (by omega)
    have hp3 := putN_le ids (fun n h => by have := hv n h; omega)
    have hpl : (putSch s).length ≤ 68 := by rw [putSch, putN_length _ (nums_small hs), nums_length]; have := hs.n2; omega
    have hp4 := pv_le10 (putSch s).length (by omega)
    simp only [restHead, List.length_append]; omega
  have hbl : (bodyHead s ids id).length = (restHead s ids id).length + 1 := by simp [bodyHead, restHead]
  have hx0 := blk_new w (.cells #[.int .i64 0, .slice none 0 0, .int .i64 0, .int .i64 0, .int .i64 0, .slice none 0 0, .int .i64 0] 92)
  have hE0 := (Ext.refl w).alloc (.cells #[.int .i64 0, .slice none 0 0, .int .i64 0, .int .i64 0, .int .i64 0, .slice none 0 0, .int .i64 0] 92)
  have huf := fun W hW hF => unframeC (fun k => F k ∨ k = w.heap.size) A c (bodyHead s ids id) r l hl W hW (by omega) (by omega) hF
  have htk : l.take (recHead s ids id).length = recHead s ids id := by rw [hl]; exact List.take_left' rfl
  have hrl : (recHead s ids id).length ≤ l.length := by rw [hl, List.length_append]; omega
  have hle := hA.le
  have hmx := hA.max
  have hfr : (frame (bodyHead s ids id)).length = (recHead s ids id).length := rfl
  rw [hfr] at huf
  have HB : As ((bodyHead s ids id).drop 1 = restHead s ids id) := ⟨by simp [bodyHead, restHead]⟩
  have HB0 : As (∃ h : 0 < (bodyHead s ids id).length, (bodyHead s ids id)[0] = 1) := ⟨⟨by omega, by simp [bodyHead, restHead]⟩⟩
  have hpre := hA.pre (recHead s ids id).length
  rw [htk] at hpre
  have HPL := As.mk (show (recHead s ids id).length = (frame (bodyHead s ids id)).length from rfl)
  obtain ⟨N, hN⟩ : ∃ N, (recHead s ids id).length = N := ⟨_, rfl⟩
  rw [hN] at huf hrl
  have HN := As.mk hN
  rw [hbl] at huf
  have HM := As.mk hbl
  obtain ⟨q, hq⟩ : ∃ q, (restHead s ids id).length = q := ⟨_, rfl⟩
  rw [hq] at huf hp
  have HQ := As.mk hq
  have i0 : (0 : Int) ≤ (N : Int) := by omega
  have i1 : (N : Int) ≤ (c : Int) := by omega
  have d0 : ((q : Int) + 1 == 0) = false := beq_eq_false_iff_ne.mpr (by omega)
  clear htk hfr hl hN hbl hq
  go_enter Tryz.func260, Tryz.ntmps260
  go_wp2_with (fail)
  generalize (w.alloc (.cells #[.int .i64 0, .slice none 0 0, .int .i64 0, .int .i64 0, .int .i64 0, .slice none 0 0, .int .i64 0] 92)) = w0 at *
  obtain ⟨x, hx⟩ : ∃ x, w.heap.size = x := ⟨_, rfl⟩
  have hA0 : rdU8.Sl (fun k => F k ∨ k = w.heap.size) w0 A c l := Rd.Sl.ext (hA.narrow (by decide) (fun k hk q => q.elim (fun q => q) (fun q => by omega))) hE0
  have hx0l := blk_lt hx0
  rw [hx] at hx0 hA0 huf ⊢
  have hxw : w.heap.size ≤ x := Nat.le_of_eq hx
  refine (huf w0 hA0 (fun k q => q.elim (FExt hF hE0 k) (fun q => by omega))).mono ?_; rintro e w1 ⟨A1, c1, rfl, hs1, hE1⟩
  have hEw := hE0.trans hE1
  have hle1 := hs1.le
  obtain ⟨b, o, rfl, hb0⟩ := int_get hs1 HB0.out.choose
  rw [HB0.out.choose_spec, Nat.add_zero] at hb0
  obtain ⟨A2, hsl2, hS2⟩ := hs1.suf elU8 1 q 1 (by rw [HM.out]; omega) rfl (by rw [HM.out, HQ.out]; omega)
  rw [HM.out, HQ.out] at hsl2 hle1
  rw [HB.out] at hS2
  have hg0 := blk_new w1 (.cells #[.slice A2 q (c1 - 1), .bool false] 390)
  have hE2 := (Ext.refl w1).alloc (.cells #[.slice A2 q (c1 - 1), .bool false] 390)
  have hb2 := hE2.cell hb0
  obtain ⟨g, hg⟩ : ∃ g, w1.heap.size = g := ⟨_, rfl⟩
  rw [hg] at hg0
  have HG := As.mk hg
  clear hg hb0
  go_wp2_with (fail)
  rw [HG.out]
  have hRr : Rr (fun k => F k ∨ k = x) w1 (w1.alloc (.cells #[.slice A2 q (c1 - 1), .bool false] 390)) g (restHead s ids id) := ⟨hE2, Nat.le_of_eq HG.out, A2, c1 - 1, by rw [HQ.out]; exact hg0, hS2⟩
  refine (recHeadC (fun k => F k ∨ k = x) (fun k => F k ∨ k = x) w1 g id s hs ids hni hv hid (restHead s ids id) rfl (by rw [HQ.out]; omega) _ hRr (fun k q => ⟨.inl q, q.elim (FExt hF (hEw.trans hE2) k) (fun q => by have := hE1.size; have := hE2.size; omega)⟩)).mono ?_; rintro e w3 ⟨As, cs, Ai, ci, rfl, hsA, hsi, h3, k3⟩
  have hgl3 : g < w3.heap.size := Nat.lt_of_lt_of_le (blk_lt hg0) k3.size
  have hE3 : Ext w1 w3 := h3.ext
  obtain ⟨A3, c3, hb3, _⟩ := h3.at_
  have hxg : x < g := by have := blk_lt hx0; have := hE1.size; have := HG.out; omega
  have hx3 := k3.blk (by omega : ¬ x = g) (hE2.blk (hE1.blk hx0))
  have hy := blk_new w3 (.cells #[.int .i64 1, .slice As s.types.length cs, .int .i64 s.keys, .int .i64 s.mode, .int .i64 s.grain, .slice Ai ids.length ci, .int .i64 id] 92)
  have hE4 := (Ext.refl w3).alloc (.cells #[.int .i64 1, .slice As s.types.length cs, .int .i64 s.keys, .int .i64 s.mode, .int .i64 s.grain, .slice Ai ids.length ci, .int .i64 id] 92)
  have hyx : ¬ w3.heap.size = x := by have := hE3.size; have := HG.out; omega
  (have y0 := blk_cell (hy) 0; have y1 := blk_cell (hy) 1; have y2 := blk_cell (hy) 2; have y3 := blk_cell (hy) 3; have y4 := blk_cell (hy) 4; have y5 := blk_cell (hy) 5; have y6 := blk_cell (hy) 6)
  go_wp2_with (fail)
  refine (putHeadC F As Ai cs ci s ids id hid _ (Rd.Sl.ext (hsA.narrow (by decide) (fun k _ q => .inl (.inl q))) hE4) hs (Rd.Sl.ext (hsi.narrow (by decide) (fun k _ q => .inl (.inl q))) hE4) hni hv (FExt hF ((hEw.trans hE3).trans hE4))).mono ?_; rintro e w5 ⟨A5, c5, rfl, hs5, hE5⟩
  have hE45 := hE4.trans hE5
  have hE5w := (hEw.trans hE3).trans hE45
  have hbe := bytesEqC F A5 A c5 c (recHead s ids id) w5 hs5 (hpre.ext hE5w)
  rw [HN.out] at hbe ⊢
  have hb5 := hE45.blk hb3
  have hy5 := hE5.blk hy
  have hx5 := hE45.blk hx3
  clear y0 y1 y2 y3 y4 y5 y6
  (have b0 := blk_cell (hb5) 0; have b1 := blk_cell (hb5) 1)
  (have y0 := blk_cell (hy5) 0; have y1 := blk_cell (hy5) 1; have y2 := blk_cell (hy5) 2; have y3 := blk_cell (hy5) 3; have y4 := blk_cell (hy5) 4; have y5 := blk_cell (hy5) 5; have y6 := blk_cell (hy5) 6)
  (have p0 := blk_cell (hx5) 0; have pf0 := blk_froz (hx5) 0; have p1 := blk_cell (hx5) 1; have pf1 := blk_froz (hx5) 1; have p2 := blk_cell (hx5) 2; have pf2 := blk_froz (hx5) 2; have p3 := blk_cell (hx5) 3; have pf3 := blk_froz (hx5) 3; have p4 := blk_cell (hx5) 4; have pf4 := blk_froz (hx5) 4; have p5 := blk_cell (hx5) 5; have pf5 := blk_froz (hx5) 5; have p6 := blk_cell (hx5) 6; have pf6 := blk_froz (hx5) 6)
  go_wp2_with (fail)
  refine hbe.mono ?_; rintro e w' ⟨rfl, rfl⟩
  go_wp2_with (fail)
  have P := put7 hx5 (.int .i64 1) (.slice As s.types.length cs) (.int .i64 s.keys) (.int .i64 s.mode) (.int .i64 s.grain) (.slice Ai ids.length ci) (.int .i64 id)
  (have e0 := blk_cell (P.1) 0; have e1 := blk_cell (P.1) 1; have e2 := blk_cell (P.1) 2; have e3 := blk_cell (P.1) 3; have e4 := blk_cell (P.1) 4; have e5 := blk_cell (P.1) 5; have e6 := blk_cell (P.1) 6)
  (try simp only [Exit.inBlock, Exit.then])
  refine bodyPost_ret (v := .tuple #[.agg #[.int .i64 1, .slice As s.types.length cs, .int .i64 s.keys, .int .i64 s.mode, .int .i64 s.grain, .slice Ai ids.length ci, .int .i64 id], .int .i64 N, .int .i64 0]) (by simp [results, Tryz.results260, go_sem, e0, e1, e2, e3, e4, e5, e6]) rfl ?_
  have KP := P.2.mono (G := fun k => (F k ∨ k = x) ∨ k = g) (fun k _ q => .inl (.inr q))
  exact ⟨As, cs, Ai, ci, by rw [HN.out], ((Rd.Sl.ext hsA hE45).keep KP).narrow (by decide) (fun k _ q => .inl (.inl q)), ((Rd.Sl.ext hsi hE45).keep KP).narrow (by decide) (fun k _ q => .inl (.inl q)), hE5w.keepNew P.2 (fun i q => by omega)⟩
end K28
namespace K30
open Go Go.RowKit
open KB KB2 KB3 K1 K6 K7 K8 K9 K22 K24 K25 K29
set_option linter.unusedVariables false
set_option linter.unusedSimpArgs false
set_option maxHeartbeats 2000000
set_option maxRecDepth 100000
/-- slices.Index: the place of the first one. -/
theorem indexI (F : Nat → Prop) (A : Option Addr) (c : Nat) (l : List Int) (x : Int) (j : Nat) (hj : j < l.length) (hx : l[j] = x) (hb : ∀ i (h : i < j), l[i] ≠ x) (w : World) (hA : (rdInt .i64).Sl F w A c l) (hn : l.length ≤ 1000000) :
    Calls Tryz.prog 253 #[.slice A l.length c, .int .i64 x] w fun e w' => e = .returned (.int .i64 j) ∧ w = w' := by
  go_enter Tryz.func253, Tryz.ntmps253
  go_wp2_with (fail)
  go_loop [5, 8] (fun _ i => ∃ k : Nat, i = .int .i64 k ∧ k ≤ j) (fun _ i => j - (intOf i).toNat)
  case atStart => exact ⟨0, by go_num, Nat.zero_le _⟩
  case round =>
    obtain ⟨k, rfl, hk⟩ := hrel
    obtain ⟨b, o, rfl, hc⟩ := int_get hA (k := k) (by omega)
    have hkl : k < l.length := by omega
    by_cases hlt : k < j
    · have hne : (x == l[k]) = false := beq_eq_false_iff_ne.mpr (fun e => hb k hlt e.symm)
      go_wp2
      go_round
      case rel => exact ⟨k + 1, by go_num, by omega⟩
      case measure => simp [intOf]; omega
    · obtain rfl : k = j := by omega
      rw [hx] at hc
      clear hx
      have heq : (x == x) = true := by simp
      go_wp2
      go_ret
      exact ⟨rfl, rfl⟩
/-- Where a row of ids stands. -/
theorem rowC (F : Nat → Prop) (A B : Option Addr) (c d : Nat) (l m : List Int) (j : Nat) (hj : j + m.length ≤ l.length) (h0 : 0 < m.length) (hm : (l.take (j + m.length)).drop j = m) (hb : ∀ i (h : i < j), l[i]'(by omega) ≠ m[0]) (w : World) (hA : (rdInt .i64).Sl F w A c l) (hB : (rdInt .i64).Sl F w B d m) (hn : l.length ≤ 1000000) :
    Calls Tryz.prog 156 #[.slice A l.length c, .slice B m.length d] w fun e w' => e = .returned (.int .i64 j) ∧ Ext w w' := by
  have hjl : l[j]'(by omega) = m[0] := by
    have := congrArg (fun q : List Int => q[0]?) hm
    simp only [List.getElem?_drop, Nat.add_zero, List.getElem?_take] at this
    rw [if_pos (by omega), List.getElem?_eq_getElem (by omega), List.getElem?_eq_getElem h0] at this
    simpa using this
  obtain ⟨b2, o2, rfl, hc2⟩ := int_get hB h0
  rw [Nat.add_zero] at hc2
  obtain ⟨A2, hsl, hS⟩ := hA.cut elInt j (j + m.length) m.length (j : Int) ((j : Int) + (m.length : Int)) (by omega) hj rfl (by omega) (by omega)
  rw [hm] at hS
  have hle := hA.le
  have hix := indexI F A c l m[0] j (by omega) hjl (fun i h => hb i h) w hA hn
  have heq := fun W h1 h2 => equalI F A2 (some ⟨b2, o2, none⟩) (c - j) d m m W h1 h2 (by omega) (by omega)
  rw [decide_eq_true rfl] at heq
  have d0 : decide ((j : Int) < 0) = false := decide_eq_false (by omega)
  have d1 : decide ((l.length : Int) < (j : Int) + (m.length : Int)) = false := decide_eq_false (by omega)
  have i1 : (m.length : Int) ≤ 1000000 := by omega
  have i2 : (j : Int) ≤ 1000000 := by omega
  generalize m[0] = m0 at *
  clear hjl hm
  go_enter Tryz.func156, Tryz.ntmps156
  go_wp2_with (fail)
  refine hix.mono ?_; rintro e w' ⟨rfl, rfl⟩
  go_wp2_with (fail)
  refine (heq w hS hB).mono ?_; rintro e w1 ⟨rfl, hE1⟩
  go_wp2
  go_ret
  exact ⟨rfl, hE1⟩
end K30
namespace K35
open Go Go.RowKit
open KB KB2 KB3 K1 K6 K7 P5 K34
set_option linter.unusedVariables false
set_option linter.unusedSimpArgs false
set_option maxHeartbeats 2000000
set_option maxRecDepth 100000
/-- A file: its bytes, and how many of them are safe. -/
abbrev FileM := List Int × Int
def rdFile : Rd FileM where
  sz := 2
  C := fun F w cs x => ∃ A c, cs = [.slice A x.1.length c, .int .i64 x.2] ∧ rdU8.Sl F w A c x.1
  len := by rintro _ _ _ _ ⟨A, c, rfl, _⟩; rfl
  keep := by rintro _ _ _ _ _ k ⟨A, c, rfl, h⟩; exact ⟨A, c, rfl, h.keep k⟩
  narrow := by rintro _ _ _ _ _ k ⟨A, c, rfl, h⟩; exact ⟨A, c, rfl, h.narrow (by decide) k⟩
  one := by rintro _ _ _ _ ⟨A, c, rfl, _⟩ u hu; simp at hu; rcases hu with rfl | rfl <;> rfl
/-- A change of names. -/
abbrev ChgM := ByteArray × ByteArray × Int
def rdChg : Rd ChgM where
  sz := 3
  C := fun F w cs x => cs = [.string x.1, .string x.2.1, .int .i64 x.2.2]
  len := by rintro _ _ _ _ rfl; rfl
  keep := fun _ h => h
  narrow := fun _ h => h
  one := by rintro _ _ _ _ rfl u hu; simp at hu; rcases hu with rfl | rfl | rfl <;> rfl
theorem rdFile.at_ {F : Nat → Prop} {w : World} {b o : Nat} {x : FileM} (h : rdFile.At F w b o x) : ∃ A c, w.cell? ⟨b, o, none⟩ = some (.slice A x.1.length c) ∧ w.cell? ⟨b, o + 1, none⟩ = some (.int .i64 x.2) ∧ rdU8.Sl F w A c x.1 := by
  obtain ⟨_, cs, ⟨A, c, rfl, hs⟩, h⟩ := h; exact ⟨A, c, h 0 _ rfl, h 1 _ rfl, hs⟩
theorem file_get {F : Nat → Prop} {w : World} {A : Option Addr} {c : Nat} {l : List FileM} (h : rdFile.Sl F w A c l) {k : Nat} (hk : k < l.length) : ∃ b o A2 c2, A = some ⟨b, o, none⟩ ∧ w.cell? ⟨b, o + k * 2, none⟩ = some (.slice A2 l[k].1.length c2) ∧ w.cell? ⟨b, o + k * 2 + 1, none⟩ = some (.int .i64 l[k].2) ∧ rdU8.Sl F w A2 c2 l[k].1 := by
  obtain ⟨b, o, e, ha⟩ := h.get hk
  obtain ⟨A2, c2, h1, h2, h3⟩ := rdFile.at_ ha
  exact ⟨b, o, A2, c2, e, h1, h2, h3⟩
/-- A disk: its files, and which of them stands under which name. -/
structure Dsk where
  quota : Nat
  steps : Nat
  lim : Nat
  files : List FileM
  M : List (ByteArray × Nat)
  clean : Bool
/-- The blocks in which no data may lie. -/
def DF (F : Nat → Prop) (dg mg : Nat) : Nat → Prop := fun k => F k ∨ k = dg ∨ k = mg
abbrev fsOf (files : List FileM) (M : List (ByteArray × Nat)) : List (ByteArray × FileM) := M.map fun p => (p.1, files.getD p.2 ([], 0))
abbrev dskCells (q st : Nat) (Af : Option Addr) (nf cf mg kg : Nat) (Ac : Option Addr) (nc cc : Nat) : Array Value :=
  #[.int .i64 q, .int .i64 st, .slice Af nf cf, .map (some mg), .map (some kg), .slice Ac nc cc, .slice none 0 0, .int .i64 (-1), .bool false]
/-- What stands under the names. -/
def Dsk.fs (D : Dsk) : List (ByteArray × FileM) := fsOf D.files D.M
structure DiskAt (F : Nat → Prop) (w : World) (dg mg : Nat) (D : Dsk) : Prop where
  fd : ¬ F dg
  fm : ¬ F mg
  le : D.lim ≤ 100000
  sl : D.steps ≤ D.lim
  ql : D.quota ≤ 1048576
  idx : ∀ p ∈ D.M, p.2 < D.files.length
  inj : ∀ p ∈ D.M, ∀ q ∈ D.M, p.2 = q.2 → p.1 = q.1
  fl : D.files.length ≤ D.lim
  ml : D.M.length ≤ D.lim
  bl : ∀ f ∈ D.files, f.1.length ≤ 10000000
  at_ : ∃ Af cf kg Ac cc chs K, w.heap[dg]? = some (.cells (dskCells D.quota D.steps Af D.files.length cf mg kg Ac (List.length chs) cc) 104 (0, 0)) ∧
    rdFile.Sl (DF F dg mg) w Af cf D.files ∧ rdChg.Sl (DF F dg mg) w Ac cc chs ∧ NamesAt w mg D.M ∧ NamesAt w kg K ∧ kg ≠ mg ∧ ¬ F kg ∧ (D.clean = true → K = D.M ∧ chs = []) ∧ List.length chs ≤ D.lim
theorem DiskAt.keep {F : Nat → Prop} {w w' : World} {dg mg : Nat} {D : Dsk} (h : DiskAt F w dg mg D) (k : Keep F w w') : DiskAt F w' dg mg D := by
  obtain ⟨fd, fm, le, sl, ql, h8, h9, h10, h11, h12, Af, cf, kg, Ac, cc, chs, K, hb, h1, h2, h3, h4, h5, h6, rest⟩ := h
  have kd := k.mono (G := DF F dg mg) (fun _ _ q => .inl q)
  exact ⟨fd, fm, le, sl, ql, h8, h9, h10, h11, h12, Af, cf, kg, Ac, cc, chs, K, k.blk fd hb, h1.keep kd, h2.keep kd, h3.keep k fm, h4.keep k h6, h5, h6, rest⟩
theorem DiskAt.ext {F : Nat → Prop} {w w' : World} {dg mg : Nat} {D : Dsk} (h : DiskAt F w dg mg D) (k : Ext w w') : DiskAt F w' dg mg D := h.keep (k.keep F)
theorem DiskAt.lt {F : Nat → Prop} {w : World} {dg mg : Nat} {D : Dsk} (h : DiskAt F w dg mg D) : dg < w.heap.size ∧ mg < w.heap.size := by
  obtain ⟨fd, fm, le, sl, ql, h8, h9, h10, h11, h12, Af, cf, kg, Ac, cc, chs, K, hb, h1, h2, h3, rest⟩ := h
  exact ⟨blk_lt hb, h3.lt⟩
/-- Data away from the two blocks stays. -/
abbrev Two' (dg mg : Nat) : Nat → Prop := fun k => k = dg ∨ k = mg
theorem containsNone (x : Int) (w : World) : Calls Tryz.prog 189 #[.slice none 0 0, .int .i64 x] w fun e w' => e = .returned (.bool false) ∧ w = w' := by
  have hix : Calls Tryz.prog 253 #[.slice none 0 0, .int .i64 x] w fun e w' => e = .returned (.int .i64 (-1)) ∧ w = w' := by
    go_enter Tryz.func253, Tryz.ntmps253
    go_wp2_with (fail)
    refine wp_loop_rounds 1 ?_
    rw [rounds_succ]
    go_wp2
    go_ret
    exact ⟨rfl, rfl⟩
  go_enter Tryz.func189, Tryz.ntmps189
  go_wp2_with (fail)
  refine hix.mono ?_; rintro e w' ⟨rfl, rfl⟩
  go_wp2
  go_ret
  exact ⟨rfl, rfl⟩
theorem stepC (F : Nat → Prop) (dg mg : Nat) (D : Dsk) (w : World) (h : DiskAt F w dg mg D) (hl : D.lim < 100000) (fn gn : Nat) (cf cg : Array Value) (P : World → Prop) (hen : IsFn fn)
    (hdo : ∀ W, DiskAt F W dg mg { D with steps := D.steps + 1, lim := D.lim + 1 } → Keep (Two' dg mg) w W → Calls Tryz.prog fn cf W fun e w' => e = .returned (.int .i64 0) ∧ P w') :
    Calls Tryz.prog 136 #[.pointer (some ⟨dg, 0, none⟩), .func (.func fn) #[] cf, .func (.func gn) #[] cg] w fun e w' => e = .returned (.int .i64 0) ∧ P w' := by
  have hent := hen cf
  obtain ⟨fd, fm, le, sl, ql, h8, h9, h10, h11, h12, Af, cff, kg, Ac, cc, chs, K, hb, h1, h2, h3, h4, h5, h6, h7, h13⟩ := h
  (have p0 := blk_cell (hb) 0; have pf0 := blk_froz (hb) 0; have p1 := blk_cell (hb) 1; have pf1 := blk_froz (hb) 1; have p2 := blk_cell (hb) 2; have pf2 := blk_froz (hb) 2; have p3 := blk_cell (hb) 3; have pf3 := blk_froz (hb) 3; have p4 := blk_cell (hb) 4; have pf4 := blk_froz (hb) 4; have p5 := blk_cell (hb) 5; have pf5 := blk_froz (hb) 5; have p6 := blk_cell (hb) 6; have pf6 := blk_froz (hb) 6; have p7 := blk_cell (hb) 7; have pf7 := blk_froz (hb) 7; have p8 := blk_cell (hb) 8; have pf8 := blk_froz (hb) 8)
  go_enter Tryz.func136, Tryz.ntmps136
  go_wp2_with (fail)
  go_region
  (try simp only [Exit.inBlock, Exit.then])
  have d1 : decide ((0 : Int) ≤ -1) = false := by decide
  go_wp2_with (fail)
  have hb1 := blk_set hb 1 (.int .i64 (D.steps + 1))
  have K1 := keep_set1 w dg 1 (.int .i64 (D.steps + 1))
  generalize (w.setCell ⟨dg, 1, none⟩ (.int .i64 (D.steps + 1))) = w1 at *
  have hb2 : w1.heap[dg]? = some (.cells (dskCells D.quota (D.steps + 1) Af D.files.length cff mg kg Ac chs.length cc) 104 (0, 0)) := hb1
  clear hb1
  clear p0 pf0 p1 pf1 p2 pf2 p3 pf3 p4 pf4 p5 pf5 p6 pf6 p7 pf7 p8 pf8
  (have p0 := blk_cell (hb2) 0; have pf0 := blk_froz (hb2) 0; have p1 := blk_cell (hb2) 1; have pf1 := blk_froz (hb2) 1; have p2 := blk_cell (hb2) 2; have pf2 := blk_froz (hb2) 2; have p3 := blk_cell (hb2) 3; have pf3 := blk_froz (hb2) 3; have p4 := blk_cell (hb2) 4; have pf4 := blk_froz (hb2) 4; have p5 := blk_cell (hb2) 5; have pf5 := blk_froz (hb2) 5; have p6 := blk_cell (hb2) 6; have pf6 := blk_froz (hb2) 6; have p7 := blk_cell (hb2) 7; have pf7 := blk_froz (hb2) 7; have p8 := blk_cell (hb2) 8; have pf8 := blk_froz (hb2) 8)
  have hD : DiskAt F w1 dg mg { D with steps := D.steps + 1, lim := D.lim + 1 } := by
    have kd : Keep (DF F dg mg) w w1 := K1.mono (fun _ _ q => .inr (.inl q))
    have hmd : mg ≠ dg := h3.notCells hb
    have hkd : kg ≠ dg := h4.notCells hb
    exact ⟨fd, fm, (by show D.lim + 1 ≤ _; omega), (by show D.steps + 1 ≤ D.lim + 1; omega), ql, h8, h9, Nat.le_succ_of_le h10, Nat.le_succ_of_le h11, h12, Af, cff, kg, Ac, cc, chs, K, hb2, h1.keep kd, h2.keep kd, h3.keep K1 hmd, h4.keep K1 hkd, h5, h6, h7, Nat.le_succ_of_le h13⟩
  have keep : ∀ w', Ext w1 w' → Ext w1 w' ∧ w'.cell? ⟨dg, 6, none⟩ = some (.slice none 0 0) ∧ w'.cell? ⟨dg, 1, none⟩ = some (.int .i64 (D.steps + 1)) := fun w' h => ⟨h, h.cell p6, h.cell p1⟩
  go_region_held3 (fun w' => Ext w1 w' ∧ w'.cell? ⟨dg, 6, none⟩ = some (.slice none 0 0) ∧ w'.cell? ⟨dg, 1, none⟩ = some (.int .i64 (D.steps + 1))) (((try dsimp only); refine keep _ ?_; first | with_reducible assumption | exact (by (repeat (first | with_reducible refine Ext.drew ?_ | with_reducible refine Ext.drewN ?_ _ | with_reducible refine Ext.alloc ?_ _)); first | with_reducible assumption | with_reducible exact Ext.refl _))) (first | (go_at_call 189; refine (containsNone _ _).mono ?_; rintro e w2 ⟨rfl, hw2⟩; have hE2 : Ext w1 w2 := (by rw [← hw2]; exact (by (repeat (first | with_reducible refine Ext.drew ?_ | with_reducible refine Ext.drewN ?_ _ | with_reducible refine Ext.alloc ?_ _)); first | with_reducible assumption | with_reducible exact Ext.refl _))))
  (try simp only [Exit.inBlock, Exit.then])
  go_wp2_with (fail)
  refine (hdo w2 (hD.ext hE2) ((K1.mono (fun _ _ q => .inl q)).trans (hE2.keep _))).mono ?_; rintro e w3 ⟨rfl, hP⟩
  go_wp2
  go_ret
  exact ⟨rfl, hP⟩
end K35
namespace K36
open Go Go.RowKit
open KB KB2 KB3 K1 K6 K7 P5 K34 K35
set_option linter.unusedVariables false
set_option linter.unusedSimpArgs false
set_option maxHeartbeats 2000000
set_option maxRecDepth 100000
theorem mayC (s : ByteArray) (h0 : 0 < s.size) (h1 : s.size ≤ 20) (w : World) : Calls Tryz.prog 138 #[.agg #[.string s]] w fun e w' => e = .returned (.bool true) ∧ Ext w w' := by
  have d0 : decide ((0 : Int) < (s.size : Int)) = true := decide_eq_true (by omega)
  have d1 : decide ((s.size : Int) ≤ 20) = true := decide_eq_true (by omega)
  go_enter Tryz.func138, Tryz.ntmps138
  go_wp2
  go_ret
  exact ⟨rfl, (Ext.refl w).alloc _⟩
abbrev chgV (c : ChgM) : Value := .agg #[.string c.1, .string c.2.1, .int .i64 c.2.2]
abbrev emp : ByteArray := ⟨#[]⟩
/-- A change done: the one name goes, the other one comes. -/
theorem doPutC (mg : Nat) (M : List (ByteArray × Nat)) (f t : ByteArray) (i : Nat) (hi : i ≤ 100000) (hf : f.size ≤ 1000) (ht : t.size ≤ 1000) (hte : ¬ t.toList = []) (hM : M.length ≤ 100000) (w : World) (h : NamesAt w mg M) :
    Calls Tryz.prog 243 #[.map (some mg), chgV (f, t, (i : Int))] w fun e w' => e = .returned (.tuple #[]) ∧ NamesAt w' mg (putA t i (delA f M)) ∧ Keep (fun k => k = mg) w w' := by
  have hB := blk_new w (.cells #[.string f, .string t, .int .i64 i] 219)
  have hE := (Ext.refl w).alloc (.cells #[.string f, .string t, .int .i64 i] 219)
  have hne : mg ≠ w.heap.size := by have := h.lt; omega
  have hmx : (1000 : Nat) ≤ maxLen := by unfold maxLen; omega
  go_enter Tryz.func243, Tryz.ntmps243
  go_wp2_with (first | (at_delete; refine delete_ rfl _ _ rfl mg M rfl (h.ext hE) f (Nat.le_trans hf hmx) rfl ?_; intro w1 h1 g1; have hB1 := (g1.block w.heap.size (by simp) (fun e => hne (by cases e; rfl))).trans hB; have q1 := blk_cell hB1 1; have q2 := blk_cell hB1 2) | (at_mapUpdate; refine store_ rfl _ _ _ rfl mg (delA f M) rfl h1 t ht i (by omega) rfl rfl (by have := del_length f M; omega) ?_; intro w2 h2 g2))
  all_goals first | exact absurd ‹_› hte | skip
  go_returns
  exact ⟨rfl, h2, ((hE.keep _).trans (Keep.of_grown g1 (fun k hk _ => by cases hk; rfl))).trans (Keep.of_grown g2 (fun k hk _ => by cases hk; rfl))⟩
/-- A name goes. -/
theorem doDelC (mg : Nat) (M : List (ByteArray × Nat)) (f : ByteArray) (hf : f.size ≤ 1000) (w : World) (h : NamesAt w mg M) :
    Calls Tryz.prog 243 #[.map (some mg), chgV (f, emp, 0)] w fun e w' => e = .returned (.tuple #[]) ∧ NamesAt w' mg (delA f M) ∧ Keep (fun k => k = mg) w w' := by
  have hB := blk_new w (.cells #[.string f, .string emp, .int .i64 0] 219)
  have hE := (Ext.refl w).alloc (.cells #[.string f, .string emp, .int .i64 0] 219)
  have hne : mg ≠ w.heap.size := by have := h.lt; omega
  have hmx : (1000 : Nat) ≤ maxLen := by unfold maxLen; omega
  go_enter Tryz.func243, Tryz.ntmps243
  go_wp2_with (first | (at_delete; refine delete_ rfl _ _ rfl mg M rfl (h.ext hE) f (Nat.le_trans hf hmx) rfl ?_; intro w1 h1 g1; have hB1 := (g1.block w.heap.size (by simp) (fun e => hne (by cases e; rfl))).trans hB; have q1 := blk_cell hB1 1; have q2 := blk_cell hB1 2))
  go_returns
  exact ⟨rfl, h1, (hE.keep _).trans (Keep.of_grown g1 (fun k hk _ => by cases hk; rfl))⟩
end K36
end Go.Proofs.YtbjeejimedhniaaGreatDoor
