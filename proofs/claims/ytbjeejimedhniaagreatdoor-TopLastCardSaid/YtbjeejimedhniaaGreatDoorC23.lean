/- Contracts of the program's functions, as the walks of the law use them. -/
import Derived.Test.YtbjeejimedhniaaGreatDoorC18
import Derived.Test.YtbjeejimedhniaaGreatDoorC8
import Derived.Test.YtbjeejimedhniaaGreatDoorC13
import Derived.WalkMore
import Derived.Deep.DeepCutAuto
import Derived.Deep.CutRange
import Derived.StillTailTactics
import Derived.Test.YtbjeejimedhniaaGreatDoorC2
import Derived.Test.YtbjeejimedhniaaGreatDoorC22
import Derived.Test.YtbjeejimedhniaaGreatDoorC14
import Derived.Laws.EntriesVeiled
namespace Go.Proofs.YtbjeejimedhniaaGreatDoor
namespace K87
open Go Go.RowKit Go.Maps
open KB KB2 KB3 K8 K9 K65 P5 K33 K34 K35 K37 K38 K42 K44 K46 K50 K51
set_option linter.unusedVariables false
set_option linter.unusedSimpArgs false
set_option maxHeartbeats 2000000
set_option maxRecDepth 100000
theorem putA_last (n : ByteArray) (x : Nat) : ∀ l : List (ByteArray × Nat), (∀ p ∈ l, ltN p.1 n) → putA n x l = l ++ [(n, x)]
  | [], _ => rfl
  | (m, y) :: l, h => by
    have h0 := h (m, y) (List.mem_cons_self ..)
    have ih := putA_last n x l (fun p hp => h p (List.mem_cons_of_mem _ hp))
    have e1 : n ≠ m := fun e => by subst e; exact ltN_irrefl _ h0
    have e2 : ¬ ltN n m := fun e => ltN_irrefl _ (ltN_trans h0 e)
    rw [putA, if_neg e1, if_neg e2, ih]; rfl
/-- The names, and new places. -/
def crM (l : List ByteArray) : List (ByteArray × Nat) := l.zipIdx
theorem crM_snoc (l : List ByteArray) (n : ByteArray) : crM (l ++ [n]) = crM l ++ [(n, l.length)] := by simp [crM, List.zipIdx_append]
theorem crM_map (l : List ByteArray) : (crM l).map (·.1) = l := by simp [crM]
theorem crM_len (l : List ByteArray) : (crM l).length = l.length := by simp [crM]
theorem crM_put (l : List ByteArray) (n : ByteArray) (h : (l ++ [n]).Pairwise ltN) : putA n l.length (crM l) = crM (l ++ [n]) := by
  rw [crM_snoc]
  refine putA_last _ _ _ fun p hp => ?_
  have : p.1 ∈ l := by rw [← crM_map l]; exact List.mem_map.2 ⟨p, hp, rfl⟩
  exact (List.pairwise_append.1 h).2.2 p.1 this n (by simp)
/-- The disk that is found. -/
def crD (D : Dsk) : Dsk := ⟨D.quota, 0, D.M.length, D.M.map (fun p => D.files.getD p.2 ([], 0)), crM (D.M.map (·.1)), true⟩
theorem minQ (W : World) (a : Int) (h : 0 ≤ a) : (Builtin.min_ #[3, 3] 3 #[.int .i64 a, .int .i64 0]).run Tryz.prog W = .ok (.int .i64 0) W := by
  rcases Int.lt_or_eq_of_le h with h1 | h1
  · have e1 : ¬ a < 0 := by omega
    simp [Builtin.min_, Builtin.min2, e1, h1]
  · subst h1; simp [Builtin.min_, Builtin.min2]
theorem NamesAt.lookRun1 {w : World} {b : Nat} {M : List (ByteArray × Nat)} (h : NamesAt w b M) (s : ByteArray) (hs : s.size ≤ maxLen) (i : Nat) (hi : getA s M = some i) :
    (Instr.lookup 101 (.map (some b)) (.agg #[.string s]) false).run Tryz.prog w = .ok (.int .i64 i) w := by
  obtain ⟨D, h1, h2⟩ := h.at_
  obtain ⟨es, clock, hb, F, _, rfl⟩ := h2
  rcases Maps.fit_look false law Tryz.underlying101 (zeroInt w) hb F (keyW s hs) with ⟨hrun, _, hat⟩ | ⟨e0, y, _, _, hrun, hRv, hat, _⟩
  · have hh := (h1.look s hs).1
    rw [hi, Maps.has_false_of_atKey hat] at hh
    cases hh
  · have hh := (h1.look s hs).2 i hi
    rw [hat] at hh
    obtain ⟨c, hc0, hc, _⟩ := plainElem_int_inv Tryz.underlying3 (show plainElem Tryz.prog 3 e0.val = some (y.1, y.2) from hRv)
    rw [hh] at hc
    injection hc with h3
    injection h3 with h3
    injection h3 with _ h4
    rw [hrun, hc0, h4]; rfl
theorem new0C (q : Nat) (hq : q ≤ 1048576) (w : World) : Calls Tryz.prog 26 #[.int .i64 q] w fun e w' => ∃ dg mg kg, e = .returned (BX dg) ∧ w.heap.size ≤ mg ∧ mg < kg ∧ kg < dg ∧ w'.heap[dg]? = some (.cells (dskCells q 0 none 0 0 mg kg none 0 0) 104 (0, 0)) ∧ NamesAt w' mg [] ∧ NamesAt w' kg [] ∧ Ext w w' := by
  have hmm := @run_makeMap Tryz.prog
  have hmx := fun W => maxQ W q (by omega)
  have hN1 := NamesAt.made w
  have hN2 := NamesAt.made (w.alloc (.map #[] 0))
  have hE2 := ((Ext.refl w).alloc (.map #[] 0)).alloc (.map #[] 0)
  have hB := blk_new ((w.alloc (.map #[] 0)).alloc (.map #[] 0)) (.cells (dskCells q 0 none 0 0 w.heap.size (w.heap.size + 1) none 0 0) 104)
  go_enter Tryz.func26, Tryz.ntmps26
  go_wp2
  go_ret
  have hE3 := hE2.alloc (.cells (dskCells q 0 none 0 0 w.heap.size (w.heap.size + 1) none 0 0) 104)
  have hE31 := (((Ext.refl (w.alloc (.map #[] 0))).alloc (.map #[] 0)).alloc (.cells (dskCells q 0 none 0 0 w.heap.size (w.heap.size + 1) none 0 0) 104))
  have hE32 := ((Ext.refl ((w.alloc (.map #[] 0)).alloc (.map #[] 0))).alloc (.cells (dskCells q 0 none 0 0 w.heap.size (w.heap.size + 1) none 0 0) 104))
  rw [World.size_alloc] at hN2
  simp only [World.size_alloc] at hB
  exact ⟨w.heap.size + 1 + 1, w.heap.size, w.heap.size + 1, rfl, Nat.le_refl _, by omega, by omega, hB, hN1.ext hE31, hN2.ext hE32, hE3⟩
theorem crashC (F : Nat → Prop) (dg mg : Nat) (D : Dsk) (w : World) (h : DiskAt F w dg mg D) (hcl : D.clean = true) (hsafe : ∀ p ∈ D.M, ∃ fb : List Int, D.files[p.2]? = some (fb, (fb.length : Int))) (ch : Nat) (hch : ch ≤ 999999) (At : Option Addr) (ct : Nat) (ts : List Int) (hts : (rdInt .i64).Sl F w At ct ts) (htl : ts.length ≤ 1000) (htv : ∀ t ∈ ts, 0 ≤ t ∧ t ≤ 999999) (hF : ∀ k, F k → k < w.heap.size) :
    Calls Tryz.prog 282 #[BX dg, .int .i64 ch, .slice At ts.length ct] w fun e w' => ∃ dg' mg', e = .returned (BX dg') ∧ w.heap.size ≤ dg' ∧ w.heap.size ≤ mg' ∧ DiskAt F w' dg' mg' (crD D) ∧ Ext w w' := by
  have hDF := DFlt h hF
  have hD := h
  have hM2 := h.ml
  obtain ⟨fd, fm, le, sl, ql, h8, h9, h10, h11, h12, Af, cff, kg, Ac, cc, chs, K, hb, h1, h2, h3, h4, h5, h6, h7, h13⟩ := h
  obtain ⟨rfl, rfl⟩ := h7 hcl
  have hcm := cloneM w kg D.M h4
  have HCM := As.mk hcm
  have hmq := fun W => maxQ W ch (by omega)
  have hmn := fun W => minQ W ch (by omega)
  clear hcm h7
  (have p0 := blk_cell (hb) 0; have p1 := blk_cell (hb) 1; have p2 := blk_cell (hb) 2; have p3 := blk_cell (hb) 3; have p4 := blk_cell (hb) 4; have p5 := blk_cell (hb) 5; have p6 := blk_cell (hb) 6; have p7 := blk_cell (hb) 7; have p8 := blk_cell (hb) 8)
  go_enter Tryz.func282, Tryz.ntmps282
  go_wp2_with (fail)
  refine HCM.out.mono ?_; rintro e w1 ⟨mg1, rfl, hg1, hN1, hE1⟩
  clear p0 p1 p2 p3 p4 p5 p6 p7 p8
  have hb1 := hE1.blk hb
  (have p0 := blk_cell (hb1) 0; have p1 := blk_cell (hb1) 1; have p2 := blk_cell (hb1) 2; have p3 := blk_cell (hb1) 3; have p4 := blk_cell (hb1) 4; have p5 := blk_cell (hb1) 5; have p6 := blk_cell (hb1) 6; have p7 := blk_cell (hb1) 7; have p8 := blk_cell (hb1) 8)
  go_wp2_with (fail)
  go_quiet (fail)
  go_wp2_with (fail)
  refine wp_loop_rounds 1 ?_
  rw [rounds_succ]
  go_wp2_with (fail)
  have hE1d : Ext w (w1.drewN nq) := hE1.drewN _
  have hNd := hN1.ext ((Ext.refl w1).drewN nq)
  have hnw := new0C D.quota (by omega) (w1.drewN nq)
  generalize w1.drewN nq = wd at *
  refine hnw.mono ?_; rintro e w2 ⟨xg, xm, xk, rfl, hxm, hxk, hxg, hx2, hn2, hk2, hE2⟩
  clear p0 p1 p2 p3 p4 p5 p6 p7 p8 hnw hb1 hN1
  have hE02 := hE1d.trans hE2
  have hx2l := blk_lt hx2
  have hFX2 : ∀ j, DF F xg xm j → j < w2.heap.size := fun j q => by
    rcases q with q | q | q
    · exact FExt hF hE02 j q
    · omega
    · omega
  have hso := sortedC (DF F xg xm) mg1 D.M (by omega) w2 (hNd.ext hE2) hFX2
  have HSO := As.mk hso
  clear hso
  go_wp2_with (fail)
  refine HSO.out.mono ?_; rintro e w3 ⟨An, cn, rfl, hsn, hE3⟩
  have hE03 := hE02.trans hE3
  have hb3 := hE03.blk hb
  have hx3 := hE3.blk hx2
  have hN3 := (hNd.ext hE2).ext hE3
  have hmd1 := hNd.lt
  have hlt := hD.lt
  obtain ⟨nm, hnm⟩ : ∃ nm, nm = D.M.map (·.1) := ⟨_, rfl⟩
  obtain ⟨fl, hfl⟩ : ∃ fl : List FileM, fl = D.M.map (fun p => D.files.getD p.2 ([], 0)) := ⟨_, rfl⟩
  have hnl : nm.length = D.M.length := by rw [hnm, List.length_map]
  have hfll : fl.length = D.M.length := by rw [hfl, List.length_map]
  rw [← hnm] at hsn
  have hsrt : nm.Pairwise ltN := by rw [hnm]; exact List.pairwise_map.2 h3.srt
  have hw1 := hE1d.size
  have hw2 := hE2.size
  have HNM := As.mk (And.intro hnm (And.intro hfl (And.intro hnl hfll)))
  clear hnm hfl hnl hfll
  obtain ⟨L, hL⟩ : ∃ L, D.M.length = L := ⟨_, rfl⟩
  rw [hL] at HNM
  have HLL := As.mk hL
  rw [hL]
  clear hL
  go_wp2_with (fail)
  go_loopw [51] (fun i wr => ∃ (k : Nat) (fv : Value), i = .int .i64 k ∧ k ≤ L ∧ wr.heap[xg]? = some (.cells #[.int .i64 D.quota, .int .i64 0, fv, .map (some xm), .map (some xk), .slice none 0 0, .slice none 0 0, .int .i64 (-1), .bool false] 104 (0, 0)) ∧ rdFile.Own (DF F xg xm) w3.heap.size 216 wr fv (fl.take k) ∧ NamesAt wr xm (crM (nm.take k)) ∧ Keep (fun j => j = xg ∨ j = xm) w3 wr) (fun i _ => L - (intOf i).toNat)
  case atStart => exact ⟨0, _, by go_num, Nat.zero_le _, hx3, Rd.Own.nil _ _ _ _ _, (hn2.ext hE3), Keep.refl _ _⟩
  case round =>
    obtain ⟨k, fv, rfl, hkl, hxr, hown, hnr, hk⟩ := hrel
    by_cases hlt2 : k < L
    · have hkM : k < D.M.length := by rw [HLL.out]; exact hlt2
      have hkn : k < nm.length := by rw [HNM.out.2.2.1]; exact hlt2
      obtain ⟨ba, oa, rfl, hca⟩ := str_get (hsn.keep (hk.mono (fun _ _ q => .inr q))) hkn
      obtain ⟨n, hn⟩ : ∃ n, nm[k] = n := ⟨_, rfl⟩
      obtain ⟨i, hi⟩ : ∃ i, (D.M[k]).2 = i := ⟨_, rfl⟩
      have hnD : n = (D.M[k]).1 := by rw [← hn]; simp only [HNM.out.1, List.getElem_map]
      have hmem : (n, i) ∈ D.M := by rw [hnD, ← hi]; exact List.getElem_mem _
      have hget1 := mem_getA h3.srt hmem
      have hsmall : n.size ≤ 1000 := h3.small _ hmem
      obtain ⟨fb, hfb0⟩ := hsafe _ hmem
      have hfb1 : D.files[i]? = some (fb, (fb.length : Int)) := hfb0
      have hil : i < D.files.length := (List.getElem?_eq_some_iff.1 hfb1).1
      have hfbl : fb.length ≤ 10000000 := h12 _ (List.mem_of_getElem? hfb1)
      have hflk : fl[k]'(by rw [HNM.out.2.2.2]; exact hlt2) = (fb, (fb.length : Int)) := by
        simp only [HNM.out.2.1, List.getElem_map]
        rw [show (D.M[k]).2 = i from hi, List.getD_eq_getElem?_getD, hfb1]; rfl
      rw [hn] at hca
      have hgF := hown.ge
      have hFA : ∀ j, Fv (DF F xg xm) fv j → j < wr.heap.size := fun j q => by
        have := hk.size; have := hE3.size
        rcases q with q | q
        · have := hFX2 j q; omega
        · exact (hgF j q).2
      have hsz3 := hE03.size
      have h1n := ((h1.narrow (G := Fv (DF F xg xm) fv) (by decide) (fun j hj q => by
        rcases q with (q | q | q) | q
        · exact .inl q
        · omega
        · omega
        · have := (hgF j q).1; omega)).ext hE03).keep (hk.mono (fun _ _ q => .inl (.inr q)))
      obtain ⟨b2, o2, A2, c2, rfl, r0, r1, hs2⟩ := file_get h1n hil
      rw [show D.files[i] = (fb, (fb.length : Int)) from (List.getElem?_eq_some_iff.1 hfb1).2] at r0 r1 hs2
      have hdx : ¬ (dg = xg ∨ dg = xm) := by rintro (q | q) <;> omega
      have hbr := hk.blk hdx hb3
      have hN1r := hN3.keep hk (by rintro (q | q) <;> omega)
      have hi0 : (i : Int) < (D.files.length : Int) := by omega
      have p2 := blk_cell hbr 2
      dsimp only at r0 r1 hs2
      have hn0 := hn
      have HN0 := As.mk hn0
      clear hn0
      have HG1 := As.mk (And.intro hget1 (And.intro hflk hnD))
      clear hget1 hflk hnD hmem hfb0 hfb1 hi hn h1n
      have hEb := (Ext.refl wr).alloc (.cells #[.string n] 211)
      have bY := blk_new wr (.cells #[.string n] 211)
      go_wp2_with (fail)
      have hN1b := hN1r.ext hEb
      have pY := blk_cell bY 0
      have P2 := hEb.cell p2
      have R0 := hEb.cell r0
      have R1 := hEb.cell r1
      generalize wr.alloc (.cells #[.string n] 211) = wb at *
      have keep : ∀ w', Ext wb w' → Ext wb w' ∧ w'.cell? ⟨dg, 2, none⟩ = some (.slice (some ⟨b2, o2, none⟩) D.files.length cff) ∧ w'.cell? ⟨wr.heap.size, 0, none⟩ = some (.string n) ∧ w'.cell? ⟨b2, o2 + i * 2, none⟩ = some (.slice A2 fb.length c2) ∧ w'.cell? ⟨b2, o2 + i * 2 + 1, none⟩ = some (.int .i64 fb.length) ∧ (Instr.lookup 101 (.map (some mg1)) (.agg #[.string n]) false).run Tryz.prog w' = .ok (.int .i64 i) w' := fun w' q => ⟨q, q.cell P2, q.cell pY, q.cell R0, q.cell R1, NamesAt.lookRun1 (hN1b.ext q) n (by unfold maxLen; omega) i HG1.out.1⟩
      have pY0 := pY
      clear P2 pY R0 R1 p2 r0 r1
      obtain ⟨-, P2, pY, R0, R1, hlk⟩ := keep wb (Ext.refl _)
      obtain ⟨zb, hzb⟩ : ∃ zb, wb.heap.size = zb := ⟨_, rfl⟩
      go_upto_region 11 with (fail)
      go_cut [13, 51] from 51 to 114 (fun z i wx => z = .pointer (some ⟨zb, 0, none⟩) ∧ i = .int .i64 k ∧ wx.heap[zb]? = some (.cells #[.slice A2 fb.length c2, .int .i64 fb.length] 216 (0, 0)) ∧ Ext wb wx)
      case first =>
        go_region_held3 (fun w' => Ext wb w' ∧ w'.cell? ⟨dg, 2, none⟩ = some (.slice (some ⟨b2, o2, none⟩) D.files.length cff) ∧ w'.cell? ⟨wr.heap.size, 0, none⟩ = some (.string n) ∧ w'.cell? ⟨b2, o2 + i * 2, none⟩ = some (.slice A2 fb.length c2) ∧ w'.cell? ⟨b2, o2 + i * 2 + 1, none⟩ = some (.int .i64 fb.length) ∧ (Instr.lookup 101 (.map (some mg1)) (.agg #[.string n]) false).run Tryz.prog w' = .ok (.int .i64 i) w') (((try dsimp only); refine keep _ ?_; first | with_reducible assumption | exact (by (repeat (first | with_reducible refine Ext.drew ?_ | with_reducible refine Ext.drewN ?_ _ | with_reducible refine Ext.alloc ?_ _)); first | with_reducible assumption | with_reducible exact Ext.refl _))) (fail)
        all_goals
          (try simp only [Exit.inBlock, Exit.then])
          go_wp2_with (fail)
          go_meet
          exact ⟨rfl, rfl, by rw [← hzb]; exact blk_new wb _, (by (repeat (first | with_reducible refine Ext.drew ?_ | with_reducible refine Ext.drewN ?_ _ | with_reducible refine Ext.alloc ?_ _)); first | with_reducible assumption | with_reducible exact Ext.refl _)⟩
      case rest =>
        obtain ⟨rfl, rfl, hz, hEc⟩ := hcut
        have z0 := blk_cell hz 0
        have z1 := blk_cell hz 1
        have e1 : Int.tmod 1 1 = 0 := by decide
        clear P2 pY R0 R1 hlk keep
        generalize wc = wq at *
        have hxc := (hEb.trans hEc).blk hxr
        have hEbc := hEb.trans hEc
        have hFc := fun j q => Nat.lt_of_lt_of_le (hFA j q) hEbc.size
        have hclo := fun W (hW : Ext wq W) => cloneB (Fv (DF F xg xm) fv) A2 c2 fb W ((hs2.ext hEbc).ext hW) (by omega) (FExt hFc hW)
        have HCLO := As.mk hclo
        have hownc := hown.ext hEbc
        have hB3 : w3.heap.size ≤ wq.heap.size := Nat.le_trans hk.size hEbc.size
        have hxg3 : xg < w3.heap.size := blk_lt hx3
        have hxgc : xg < wq.heap.size := by omega
        have hgx : ∀ j, fv.ownBlock = some j → ¬ j = xg := fun j hj => by have := (hgF j hj).1; omega
        have hfk : As ((fl.take k).length = k) := ⟨by rw [List.length_take, HNM.out.2.2.2]; omega⟩
        have x2 := blk_cell hxc 2
        have Y0 := hEc.cell pY0
        have hnc := hnr.ext hEbc
        clear hclo
        have hle2 := hs2.le
        have j0 : (0 : Int) ≤ (fb.length : Int) := by omega
        have j1 : (fb.length : Int) ≤ (c2 : Int) := by omega
        have htc := ((hts.narrow (G := DF F xg xm) (by decide) (fun j hj q => by
          rcases q with q | q | q
          · exact q
          · omega
          · omega)).ext hE03).keep (hk.mono (fun _ _ q => .inr q))
        replace htc := htc.ext hEbc
        have hge0 : 0 < ts.length → ∃ bt ot tv, At = some ⟨bt, ot, none⟩ ∧ wq.cell? ⟨bt, ot + k % ts.length, none⟩ = some (.int .i64 tv) := fun h0 => by
          obtain ⟨bt, ot, e, hc⟩ := int_get htc (k := k % ts.length) (Nat.mod_lt _ h0)
          exact ⟨bt, ot, _, e, hc⟩
        have hts0 : ts.length = 0 ∨ 0 < ts.length := by omega
        have HFK := hfk
        rcases hts0 with ht0 | ht0
        · have dt : decide (0 < ts.length) = false := decide_eq_false (by omega)
          clear hge0 ht0
          go_wp2_with (fail)
          go_upto_region 16 with (fail)
          go_cut [51] from 51 to 114 (fun i wx => i = .int .i64 k ∧ ∃ fv', wx.heap[xg]? = some (.cells #[.int .i64 D.quota, .int .i64 0, fv', .map (some xm), .map (some xk), .slice none 0 0, .slice none 0 0, .int .i64 (-1), .bool false] 104 (0, 0)) ∧ rdFile.Own (DF F xg xm) w3.heap.size 216 wx fv' (fl.take (k + 1)) ∧ Keep (fun j => j = xg ∨ fv.ownBlock = some j) wq wx)
          case first =>
            go_region_law (first | (go_simp; go_at_call 171; with_reducible refine Calls.mono (HCLO.out _ ?_) ?_; exact (by (repeat (first | with_reducible refine Ext.drew ?_ | with_reducible refine Ext.drewN ?_ _ | with_reducible refine Ext.alloc ?_ _)); first | with_reducible assumption | with_reducible exact Ext.refl _); rintro e w5 ⟨A5, c5, rfl, hs5, hE5⟩; have hx5 := Ext.trans (a := wq) (by (repeat (first | with_reducible refine Ext.drew ?_ | with_reducible refine Ext.drewN ?_ _ | with_reducible refine Ext.alloc ?_ _)); first | with_reducible assumption | with_reducible exact Ext.refl _) hE5; have s2 := blk_cell (hx5.blk hxc) 2; have s2a := Ext.cell ((Ext.refl w5).alloc (.cells #[.slice A5 fb.length c5, .int .i64 fb.length] 216)) s2; dsimp only) | (refine step_pushAt rfl (.tmp 96) (.tmp 104) 99 rfl rdFile elFile (by rfl) (hownc.ext (by (repeat (first | with_reducible refine Ext.drew ?_ | with_reducible refine Ext.drewN ?_ _ | with_reducible refine Ext.alloc ?_ _)); first | with_reducible assumption | with_reducible exact Ext.refl _)) (by rfl) (by exact heap_alloc_new _ _) (y := ((fb, (fb.length : Int)) : FileM)) ⟨A5, c5, rfl, hs5.ext (by (repeat (first | with_reducible refine Ext.drew ?_ | with_reducible refine Ext.drewN ?_ _ | with_reducible refine Ext.alloc ?_ _)); first | with_reducible assumption | with_reducible exact Ext.refl _)⟩ (by rw [hfk.out]; omega) (by rw [hfk.out]; unfold maxLen; omega) (Nat.le_trans hB3 (Ext.size (w := wq) (by (repeat (first | with_reducible refine Ext.drew ?_ | with_reducible refine Ext.drewN ?_ _ | with_reducible refine Ext.alloc ?_ _)); first | with_reducible assumption | with_reducible exact Ext.refl _))) ?_; intro v' w6 hown6 hg6 hat6; have hbx := (hg6.block xg (Nat.lt_of_lt_of_le hxgc (Ext.size (w := wq) (by (repeat (first | with_reducible refine Ext.drew ?_ | with_reducible refine Ext.drewN ?_ _ | with_reducible refine Ext.alloc ?_ _)); first | with_reducible assumption | with_reducible exact Ext.refl _))) (fun e => hgx xg e.symm rfl)).trans (Ext.blk (w := wq) (by (repeat (first | with_reducible refine Ext.drew ?_ | with_reducible refine Ext.drewN ?_ _ | with_reducible refine Ext.alloc ?_ _)); first | with_reducible assumption | with_reducible exact Ext.refl _) hxc); have X2 := blk_cell hbx 2; have Xf2 := blk_froz hbx 2; obtain ⟨A9, c9, rfl, hc9, _⟩ := own_len hown6))
            all_goals
              (try simp only [Exit.inBlock, Exit.then])
              go_wp2_with (fail)
              go_meet
              have hlen : (fl.take k ++ [((fb, (fb.length : Int)) : FileM)]).length = min k fl.length + 1 := by simp
              have hsn2 : fl.take (k + 1) = fl.take k ++ [((fb, (fb.length : Int)) : FileM)] := by rw [take_snoc fl (by rw [HNM.out.2.2.2]; exact hlt2), HG1.out.2.1]
              have hb6 := blk_set hbx 2 (.slice A9 (fl.take k ++ [((fb, (fb.length : Int)) : FileM)]).length c9)
              have k6 := keep_set1 w6 xg 2 (.slice A9 (fl.take k ++ [((fb, (fb.length : Int)) : FileM)]).length c9)
              have hwn := hown6
              have hgx6 : ∀ j, (Value.slice A9 (fl.take k ++ [((fb, (fb.length : Int)) : FileM)]).length c9).ownBlock = some j → ¬ j = xg := fun j hj => by have := (hwn.ge j hj).1; omega
              have hown7 := hown6.keep2 (k6.mono (fun _ _ q => .inl (.inr (.inl q)))) (fun j hj => k6.block j (hwn.ge j hj).2 (hgx6 j hj))
              have kg6 : Keep (fun j => fv.ownBlock = some j) _ w6 := Keep.of_grown hg6 (fun j hj _ => hj)
              have kall := (((Ext.keep (w := wq) (by (repeat (first | with_reducible refine Ext.drew ?_ | with_reducible refine Ext.drewN ?_ _ | with_reducible refine Ext.alloc ?_ _)); first | with_reducible assumption | with_reducible exact Ext.refl _) _).trans kg6).mono (G := fun j => j = xg ∨ fv.ownBlock = some j) (fun _ _ q => .inr q)).trans (k6.mono (fun _ _ q => .inl q))
              rw [hlen] at hb6 hown7 kall
              rw [← hsn2] at hown7
              exact ⟨rfl, _, hb6, hown7, kall⟩
          case rest =>
            obtain ⟨rfl, fv', hx6, hown6, k6⟩ := hcut
            have hgxr : ∀ j, fv.ownBlock = some j → w3.heap.size ≤ j ∧ j < wr.heap.size := hgF
            have hyx : ¬ (wr.heap.size = xg ∨ fv.ownBlock = some wr.heap.size) := by
              rintro (q | q)
              · have := hk.size; omega
              · exact absurd (hgxr _ q).2 (Nat.lt_irrefl _)
            have Y6 := k6.cell (a := ⟨wr.heap.size, 0, none⟩) hyx Y0
            have X3 := blk_cell hx6 3
            have hn6 := hnc.keep k6 (by
              rintro (q | q)
              · omega
              · have := (hgxr _ q).1; omega)
            have hwc := k6.size
            clear Y0 x2 hxc
            go_wp2_with (fail)
            go_still_tail 6, (by kernel_rfl)
            change wpList _ _ _ _ _ wc.drew
            have hEd : Ext wc wc.drew := (Ext.refl wc).drew
            replace Y6 := hEd.cell Y6
            replace X3 := hEd.cell X3
            have hn7 := hn6.ext hEd
            generalize wc.drew = we at *
            have hlen6 : (crM (nm.take k)).length < 1000000 := by rw [crM_len, List.length_take]; omega
            go_wp2_with (first | (at_mapUpdate; refine store_ rfl _ _ _ rfl xm (crM (nm.take k)) rfl hn7 n hsmall k (by omega) rfl rfl hlen6 ?_; intro w7 hn8 hg8))
            have kg8 : Keep (fun j => j = xm) we w7 := Keep.of_grown hg8 (fun j hj _ => by cases hj; rfl)
            have hxm6 : ¬ xg = xm := by omega
            have hnk : nm.take (k + 1) = nm.take k ++ [n] := by rw [take_snoc nm hkn]; rw [HN0.out]
            go_roundw
            case rel =>
              refine ⟨k + 1, fv', by go_num, by omega, kg8.blk hxm6 (hEd.blk hx6), ?_, ?_, ?_⟩
              · have hge6 := hown6.ge
                exact (hown6.ext hEd).keep2 (kg8.mono (fun _ _ q => .inl (.inr (.inr q)))) (fun j hj => kg8.block j (Nat.lt_of_lt_of_le (hge6 j hj).2 hEd.size) (fun e => by have := (hge6 j hj).1; omega))
              · have e := crM_put (nm.take k) n (by rw [← hnk]; exact hsrt.sublist (List.take_sublist _ _))
                rw [hnk, ← e, show (nm.take k).length = k from by rw [List.length_take]; omega]
                exact hn8
              · exact ((((hk.post hEbc).newB (k6.mono (G := fun j => j = xg ∨ fv.ownBlock = some j) (fun _ _ q => q)) (fun j q => q.elim (fun q => .inl (.inl q)) (fun q => .inr (hgF j q).1))).post hEd).trans (kg8.mono (fun _ _ q => .inr q)))
            case measure => simp [intOf] <;> omega
        · obtain ⟨bt, ot, tv, rfl, htcell⟩ := hge0 ht0
          have hne : ¬ ts.length = 0 := by omega
          have hmod : Int.tmod (k : Int) (ts.length : Int) = ((k % ts.length : Nat) : Int) := rfl
          have hm1 : k % ts.length < ts.length := Nat.mod_lt _ ht0
          have htm : Int.tmod tv 1 = 0 := Int.tmod_one tv
          obtain ⟨mm, hmm⟩ : ∃ mm, k % ts.length = mm := ⟨_, rfl⟩
          rw [hmm] at hmod htcell hm1
          have i0 : (0 : Int) ≤ (mm : Int) := by omega
          have i1 : (mm : Int) < (ts.length : Int) := by omega
          clear hmm
          go_wp2_with (fail)
          go_upto_region 16 with (fail)
          go_cut [51] from 51 to 114 (fun i wx => i = .int .i64 k ∧ ∃ fv', wx.heap[xg]? = some (.cells #[.int .i64 D.quota, .int .i64 0, fv', .map (some xm), .map (some xk), .slice none 0 0, .slice none 0 0, .int .i64 (-1), .bool false] 104 (0, 0)) ∧ rdFile.Own (DF F xg xm) w3.heap.size 216 wx fv' (fl.take (k + 1)) ∧ Keep (fun j => j = xg ∨ fv.ownBlock = some j) wq wx)
          case first =>
            go_region_law (first | (go_simp; go_at_call 171; with_reducible refine Calls.mono (HCLO.out _ ?_) ?_; exact (by (repeat (first | with_reducible refine Ext.drew ?_ | with_reducible refine Ext.drewN ?_ _ | with_reducible refine Ext.alloc ?_ _)); first | with_reducible assumption | with_reducible exact Ext.refl _); rintro e w5 ⟨A5, c5, rfl, hs5, hE5⟩; have hx5 := Ext.trans (a := wq) (by (repeat (first | with_reducible refine Ext.drew ?_ | with_reducible refine Ext.drewN ?_ _ | with_reducible refine Ext.alloc ?_ _)); first | with_reducible assumption | with_reducible exact Ext.refl _) hE5; have s2 := blk_cell (hx5.blk hxc) 2; have s2a := Ext.cell ((Ext.refl w5).alloc (.cells #[.slice A5 fb.length c5, .int .i64 fb.length] 216)) s2; dsimp only) | (refine step_pushAt rfl (.tmp 96) (.tmp 104) 99 rfl rdFile elFile (by rfl) (hownc.ext (by (repeat (first | with_reducible refine Ext.drew ?_ | with_reducible refine Ext.drewN ?_ _ | with_reducible refine Ext.alloc ?_ _)); first | with_reducible assumption | with_reducible exact Ext.refl _)) (by rfl) (by exact heap_alloc_new _ _) (y := ((fb, (fb.length : Int)) : FileM)) ⟨A5, c5, rfl, hs5.ext (by (repeat (first | with_reducible refine Ext.drew ?_ | with_reducible refine Ext.drewN ?_ _ | with_reducible refine Ext.alloc ?_ _)); first | with_reducible assumption | with_reducible exact Ext.refl _)⟩ (by rw [hfk.out]; omega) (by rw [hfk.out]; unfold maxLen; omega) (Nat.le_trans hB3 (Ext.size (w := wq) (by (repeat (first | with_reducible refine Ext.drew ?_ | with_reducible refine Ext.drewN ?_ _ | with_reducible refine Ext.alloc ?_ _)); first | with_reducible assumption | with_reducible exact Ext.refl _))) ?_; intro v' w6 hown6 hg6 hat6; have hbx := (hg6.block xg (Nat.lt_of_lt_of_le hxgc (Ext.size (w := wq) (by (repeat (first | with_reducible refine Ext.drew ?_ | with_reducible refine Ext.drewN ?_ _ | with_reducible refine Ext.alloc ?_ _)); first | with_reducible assumption | with_reducible exact Ext.refl _))) (fun e => hgx xg e.symm rfl)).trans (Ext.blk (w := wq) (by (repeat (first | with_reducible refine Ext.drew ?_ | with_reducible refine Ext.drewN ?_ _ | with_reducible refine Ext.alloc ?_ _)); first | with_reducible assumption | with_reducible exact Ext.refl _) hxc); have X2 := blk_cell hbx 2; have Xf2 := blk_froz hbx 2; obtain ⟨A9, c9, rfl, hc9, _⟩ := own_len hown6))
            all_goals
              (try simp only [Exit.inBlock, Exit.then])
              go_wp2_with (fail)
              go_meet
              have hlen : (fl.take k ++ [((fb, (fb.length : Int)) : FileM)]).length = min k fl.length + 1 := by simp
              have hsn2 : fl.take (k + 1) = fl.take k ++ [((fb, (fb.length : Int)) : FileM)] := by rw [take_snoc fl (by rw [HNM.out.2.2.2]; exact hlt2), HG1.out.2.1]
              have hb6 := blk_set hbx 2 (.slice A9 (fl.take k ++ [((fb, (fb.length : Int)) : FileM)]).length c9)
              have k6 := keep_set1 w6 xg 2 (.slice A9 (fl.take k ++ [((fb, (fb.length : Int)) : FileM)]).length c9)
              have hwn := hown6
              have hgx6 : ∀ j, (Value.slice A9 (fl.take k ++ [((fb, (fb.length : Int)) : FileM)]).length c9).ownBlock = some j → ¬ j = xg := fun j hj => by have := (hwn.ge j hj).1; omega
              have hown7 := hown6.keep2 (k6.mono (fun _ _ q => .inl (.inr (.inl q)))) (fun j hj => k6.block j (hwn.ge j hj).2 (hgx6 j hj))
              have kg6 : Keep (fun j => fv.ownBlock = some j) _ w6 := Keep.of_grown hg6 (fun j hj _ => hj)
              have kall := (((Ext.keep (w := wq) (by (repeat (first | with_reducible refine Ext.drew ?_ | with_reducible refine Ext.drewN ?_ _ | with_reducible refine Ext.alloc ?_ _)); first | with_reducible assumption | with_reducible exact Ext.refl _) _).trans kg6).mono (G := fun j => j = xg ∨ fv.ownBlock = some j) (fun _ _ q => .inr q)).trans (k6.mono (fun _ _ q => .inl q))
              rw [hlen] at hb6 hown7 kall
              rw [← hsn2] at hown7
              exact ⟨rfl, _, hb6, hown7, kall⟩
          case rest =>
            obtain ⟨rfl, fv', hx6, hown6, k6⟩ := hcut
            have hgxr : ∀ j, fv.ownBlock = some j → w3.heap.size ≤ j ∧ j < wr.heap.size := hgF
            have hyx : ¬ (wr.heap.size = xg ∨ fv.ownBlock = some wr.heap.size) := by
              rintro (q | q)
              · have := hk.size; omega
              · exact absurd (hgxr _ q).2 (Nat.lt_irrefl _)
            have Y6 := k6.cell (a := ⟨wr.heap.size, 0, none⟩) hyx Y0
            have X3 := blk_cell hx6 3
            have hn6 := hnc.keep k6 (by
              rintro (q | q)
              · omega
              · have := (hgxr _ q).1; omega)
            have hwc := k6.size
            clear Y0 x2 hxc
            go_wp2_with (fail)
            go_still_tail 6, (by kernel_rfl)
            change wpList _ _ _ _ _ wc.drew
            have hEd : Ext wc wc.drew := (Ext.refl wc).drew
            replace Y6 := hEd.cell Y6
            replace X3 := hEd.cell X3
            have hn7 := hn6.ext hEd
            generalize wc.drew = we at *
            have hlen6 : (crM (nm.take k)).length < 1000000 := by rw [crM_len, List.length_take]; omega
            go_wp2_with (first | (at_mapUpdate; refine store_ rfl _ _ _ rfl xm (crM (nm.take k)) rfl hn7 n hsmall k (by omega) rfl rfl hlen6 ?_; intro w7 hn8 hg8))
            have kg8 : Keep (fun j => j = xm) we w7 := Keep.of_grown hg8 (fun j hj _ => by cases hj; rfl)
            have hxm6 : ¬ xg = xm := by omega
            have hnk : nm.take (k + 1) = nm.take k ++ [n] := by rw [take_snoc nm hkn]; rw [HN0.out]
            go_roundw
            case rel =>
              refine ⟨k + 1, fv', by go_num, by omega, kg8.blk hxm6 (hEd.blk hx6), ?_, ?_, ?_⟩
              · have hge6 := hown6.ge
                exact (hown6.ext hEd).keep2 (kg8.mono (fun _ _ q => .inl (.inr (.inr q)))) (fun j hj => kg8.block j (Nat.lt_of_lt_of_le (hge6 j hj).2 hEd.size) (fun e => by have := (hge6 j hj).1; omega))
              · have e := crM_put (nm.take k) n (by rw [← hnk]; exact hsrt.sublist (List.take_sublist _ _))
                rw [hnk, ← e, show (nm.take k).length = k from by rw [List.length_take]; omega]
                exact hn8
              · exact ((((hk.post hEbc).newB (k6.mono (G := fun j => j = xg ∨ fv.ownBlock = some j) (fun _ _ q => q)) (fun j q => q.elim (fun q => .inl (.inl q)) (fun q => .inr (hgF j q).1))).post hEd).trans (kg8.mono (fun _ _ q => .inr q)))
            case measure => simp [intOf] <;> omega
    · obtain rfl : k = L := by omega
      have ht1 : nm.take k = nm := List.take_of_length_le (by rw [HNM.out.2.2.1]; omega)
      have ht2 : fl.take k = fl := List.take_of_length_le (by rw [HNM.out.2.2.2]; omega)
      rw [ht1] at hnr
      rw [ht2] at hown
      obtain ⟨Af9, cf9, rfl, hsl⟩ := hown.shut (fun j q => Nat.lt_of_lt_of_le (hFX2 j q) hE3.size)
      have HC2 := As.mk (cloneM wr xm (crM nm) hnr)
      have HSL := As.mk hsl
      have x3 := blk_cell hxr 3
      have hmg : xm < wr.heap.size := hnr.lt
      have hxgr : xg < wr.heap.size := blk_lt hxr
      have HKR := As.mk hk
      clear ht1 ht2 hsl hown hmg
      go_wp2_with (fail)
      refine HC2.out.mono ?_; rintro e w9 ⟨mg9, rfl, hg9, hN9, hE9⟩
      have hx9 := hE9.blk hxr
      have y4 := blk_cell hx9 4
      have yf4 := blk_froz hx9 4
      go_wp2_with (fail)
      go_ret
      have hcd : crD D = ⟨D.quota, 0, k, fl, crM nm, true⟩ := by rw [HNM.out.1, HNM.out.2.1]; unfold crD; rw [HLL.out]
      have hK := keep_set1 w9 xg 4 (.map (some mg9))
      have hb9 := blk_set hx9 4 (.map (some mg9))
      have hx3g : xg < w3.heap.size := blk_lt hx3
      have hwx : Ext w (w9.setCell ⟨xg, 4, none⟩ (.map (some mg9))) := (Ext.keepNew hE03 HKR.out (fun j q => by omega)).trans hE9 |>.setCell (by show w.heap.size ≤ xg; omega) _
      have hnr9 := hnr.ext hE9
      have hxmx : xm ≠ xg := hnr9.notCells hx9
      have hmgx : mg9 ≠ xg := hN9.notCells hx9
      have hlr := hnr.lt
      refine ⟨xg, xm, rfl, by omega, by omega, ?_, hwx⟩
      rw [hcd]
      refine ⟨fun q => by have := hF _ q; omega, fun q => by have := hF _ q; omega, (by show k ≤ 100000; have := HLL.out; omega), Nat.zero_le _, ql, ?_, ?_, (by show fl.length ≤ k; rw [HNM.out.2.2.2]; exact Nat.le_refl _), (by show (crM nm).length ≤ k; rw [crM_len, HNM.out.2.2.1]; exact Nat.le_refl _), ?_, Af9, cf9, mg9, none, 0, [], crM nm, hb9, ?_, Rd.Sl.nil0 _ _ _, hnr9.keep hK hxmx, hN9.keep hK hmgx, (by omega), (fun q => by have := hF _ q; omega), (fun _ => ⟨rfl, rfl⟩), Nat.zero_le _⟩
      · intro p hp
        show p.2 < fl.length
        have := List.snd_lt_of_mem_zipIdx hp
        rw [HNM.out.2.2.2]; rw [HNM.out.2.2.1] at this; omega
      · intro p hp q hq e
        have h1 := List.mem_zipIdx' hp
        have h2 := List.mem_zipIdx' hq
        rw [h1.2, h2.2]; congr 1
      · intro f hf
        change f ∈ fl at hf
        rw [HNM.out.2.1] at hf
        obtain ⟨p, hp, rfl⟩ := List.mem_map.1 hf
        rw [List.getD_eq_getElem?_getD, List.getElem?_eq_getElem (h8 _ hp)]
        exact h12 _ (List.getElem_mem _)
      · exact (HSL.out.ext hE9).keep (hK.mono (fun _ _ q => .inr (.inl q)))
end K87
namespace K96
open Go Go.RowKit Go.Maps
open KB KB2 K33
set_option linter.unusedVariables false
set_option linter.unusedSimpArgs false
set_option maxHeartbeats 2000000
set_option maxRecDepth 100000
theorem strLaw : Keyed Tryz.prog 9 := Maps.string_keyed Tryz.underlying9
abbrev ordV (a b : Int) (t : Bool) (f : Nat) : Value := .agg #[.int .i64 a, .int .i64 b, .bool t, .func (.func f) #[] #[]]
abbrev oMerge : Value := ordV 2 2 true 198
abbrev oStep : Value := ordV 0 0 true 199
abbrev oParts : Value := ordV 0 0 true 200
abbrev oFail : Value := ordV 0 1048576 false 201
abbrev oLimit : Value := ordV 1 1 false 202
abbrev oCrash : Value := ordV 1 1048576 false 203
abbrev oFiles : Value := ordV 0 0 false 204
abbrev oZero : Value := .agg #[.int .i64 0, .int .i64 0, .bool false, .nilFunc]
abbrev TO : List Value := [oZero, oMerge, oStep, oParts, oFail, oLimit, oCrash, oFiles]
def kS (l : List UInt8) : Lit := .string l
theorem zeroO (w : World) : (zeroValue 187).run Tryz.prog w = .ok oZero w := by kernel_rfl
theorem kMerge : keyOf Tryz.prog 9 (.string ⟨#[109, 101, 114, 103, 101]⟩) = some (kS [109, 101, 114, 103, 101]) := by kernel_rfl
theorem kStep : keyOf Tryz.prog 9 (.string ⟨#[115, 116, 101, 112]⟩) = some (kS [115, 116, 101, 112]) := by kernel_rfl
theorem kParts : keyOf Tryz.prog 9 (.string ⟨#[112, 97, 114, 116, 115]⟩) = some (kS [112, 97, 114, 116, 115]) := by kernel_rfl
theorem kFail : keyOf Tryz.prog 9 (.string ⟨#[102, 97, 105, 108]⟩) = some (kS [102, 97, 105, 108]) := by kernel_rfl
theorem kLimit : keyOf Tryz.prog 9 (.string ⟨#[108, 105, 109, 105, 116]⟩) = some (kS [108, 105, 109, 105, 116]) := by kernel_rfl
theorem kCrash : keyOf Tryz.prog 9 (.string ⟨#[99, 114, 97, 115, 104]⟩) = some (kS [99, 114, 97, 115, 104]) := by kernel_rfl
theorem kFiles : keyOf Tryz.prog 9 (.string ⟨#[102, 105, 108, 101, 115]⟩) = some (kS [102, 105, 108, 101, 115]) := by kernel_rfl
/-- A map of orders. -/
def OrdAt (w : World) (b n : Nat) (es : List (Lit × Value)) : Prop := ∃ D, w.ownsMap Tryz.prog 9 (tblElem TO) b n D ∧ ∀ p ∈ es, ∀ z, D.atKey p.1 z = tblD TO p.2
theorem OrdAt.ext {w w' : World} {b n : Nat} {es : List (Lit × Value)} (h : OrdAt w b n es) (k : Ext w w') : OrdAt w' b n es := by
  obtain ⟨D, ⟨es', clock, hb, rest⟩, h2⟩ := h
  exact ⟨D, ⟨es', clock, k.blk hb, rest⟩, h2⟩
theorem OrdAt.made (w : World) : OrdAt (w.alloc (.map #[] 0)) w.heap.size 0 [] := ⟨_, World.ownsMap_made _ _ _ _, fun p h => by cases h⟩
theorem OrdAt.look {w : World} {b n : Nat} {es : List (Lit × Value)} (h : OrdAt w b n es) {key : Value} {kl : Lit} {v : Value} (hkey : keyOf Tryz.prog 9 key = some kl) (hm : (kl, v) ∈ es) (hv : v ∈ TO) :
    (Instr.lookup 189 (.map (some b)) key true).run Tryz.prog w = .ok (.tuple #[v, .bool true]) w := by
  obtain ⟨D, h1, h2⟩ := h
  obtain ⟨es', clock, hb, F, _, rfl⟩ := h1
  rcases Maps.fit_look true strLaw Tryz.underlying189 (zeroO w) hb F hkey with ⟨_, _, hat⟩ | ⟨e0, y, _, _, hrun, hRv, hat, _⟩
  · have a1 := hat (.lit (.int .i64 1))
    have a2 := hat (.lit (.int .i64 2))
    rw [h2 _ hm] at a1 a2
    rw [a1] at a2
    cases a2
  · have a1 := hat (.lit (.int .i64 0))
    rw [h2 _ hm] at a1
    have : e0.val = v := tblElem_inj (ps := y.2) hv (by rw [hRv, a1])
    rw [hrun, this]; rfl
section
variable {ops : Array Oper} {rest : List Oper} {o : Oper} {a : Act} {Q : Exit → Act → World → Prop} {W : World}
theorem ins_ (hgd : o.guard = none) (m k v : Operand) (hop : o.op = Op.insert 189 m k v) (b n : Nat) (es : List (Lit × Value)) (hm : a.eval m = .map (some b)) (HO : OrdAt W b n es) (hn : n < 100)
    (key val : Value) (kl : Lit) (hk : a.eval k = key) (hkey : keyOf Tryz.prog 9 key = some kl) (hl : WideAt.IsKeyLit kl) (hv : a.eval v = val) (hT : val ∈ TO) (hne : ∀ p ∈ es, ¬ p.1 = kl)
    (h : ∀ w', OrdAt w' b (n + 1) ((kl, val) :: es) → W.grownBy w' (some b) → wpList Tryz.prog ops Q rest (a.put o.dst undef) w') : wpList Tryz.prog ops Q (o :: rest) a W := by
  obtain ⟨D, h1, h2⟩ := HO
  obtain ⟨w', r1, r2, r3⟩ := h1.update strLaw Tryz.underlying189 (by unfold maxLen; omega) hkey (tblElem_mem hT)
  refine wpList_plain hgd fun K' hK' => ?_
  unfold Oper.wp
  simp [execOp, hop, hm, hk, hv, r1, Result.andThen]
  refine hK' _ _ (h w' ⟨D.put kl (tblD TO val), r2, fun p hp z => ?_⟩ r3)
  rcases List.mem_cons.1 hp with rfl | hp
  · exact atKey_put_same h1.isMap hl _ _
  · rw [atKey_put_other (hne p hp)]
    exact h2 p hp z
end
theorem ordersC (w : World) : Calls Tryz.prog 111 #[] w fun e w' => ∃ b es, e = .returned (.map (some b)) ∧ w.heap.size ≤ b ∧ OrdAt w' b 7 es ∧ (kS [99, 114, 97, 115, 104], oCrash) ∈ es ∧ Ext w w' := by
  have h0 := OrdAt.made w
  have hE0 := (Ext.refl w).alloc (.map #[] 0)
  have hmm := @run_makeMap Tryz.prog
  go_enter Tryz.func111, Tryz.ntmps111
  go_wp2_with (first | (refine ins_ rfl _ _ _ rfl w.heap.size 0 _ rfl h0 (by decide) _ oMerge _ rfl kMerge trivial rfl (by simp) (by simp [kS]) ?_; intro w1 h1 g1) | (refine ins_ rfl _ _ _ rfl w.heap.size 1 _ rfl h1 (by decide) _ oStep _ rfl kStep trivial rfl (by simp) (by simp [kS]) ?_; intro w2 h2 g2) | (refine ins_ rfl _ _ _ rfl w.heap.size 2 _ rfl h2 (by decide) _ oParts _ rfl kParts trivial rfl (by simp) (by simp [kS]) ?_; intro w3 h3 g3) | (refine ins_ rfl _ _ _ rfl w.heap.size 3 _ rfl h3 (by decide) _ oFail _ rfl kFail trivial rfl (by simp) (by simp [kS]) ?_; intro w4 h4 g4) | (refine ins_ rfl _ _ _ rfl w.heap.size 4 _ rfl h4 (by decide) _ oLimit _ rfl kLimit trivial rfl (by simp) (by simp [kS]) ?_; intro w5 h5 g5) | (refine ins_ rfl _ _ _ rfl w.heap.size 5 _ rfl h5 (by decide) _ oCrash _ rfl kCrash trivial rfl (by simp) (by simp [kS]) ?_; intro w6 h6 g6) | (refine ins_ rfl _ _ _ rfl w.heap.size 6 _ rfl h6 (by decide) _ oFiles _ rfl kFiles trivial rfl (by simp) (by simp [kS]) ?_; intro w7 h7 g7))
  go_ret
  exact ⟨w.heap.size, _, rfl, Nat.le_refl _, h7, by simp, (Ext.grown (Ext.grown (Ext.grown (Ext.grown (Ext.grown (Ext.grown (Ext.grown hE0 g1 (fun k e => by cases e; exact Nat.le_refl _)) g2 (fun k e => by cases e; exact Nat.le_refl _)) g3 (fun k e => by cases e; exact Nat.le_refl _)) g4 (fun k e => by cases e; exact Nat.le_refl _)) g5 (fun k e => by cases e; exact Nat.le_refl _)) g6 (fun k e => by cases e; exact Nat.le_refl _)) g7 (fun k e => by cases e; exact Nat.le_refl _))⟩
end K96
namespace K97
open Go Go.RowKit
open KB KB2 K35 K42 K70 K87 K88 K89 K90 K96
set_option linter.unusedVariables false
set_option linter.unusedSimpArgs false
set_option maxHeartbeats 2000000
set_option maxRecDepth 100000
abbrev tableB : ByteArray := ⟨#[116, 97, 98, 108, 101]⟩
abbrev insertB : ByteArray := ⟨#[105, 110, 115, 101, 114, 116]⟩
abbrev getB : ByteArray := ⟨#[103, 101, 116]⟩
abbrev crashB : ByteArray := ⟨#[99, 114, 97, 115, 104]⟩
theorem lineTableC (F : Nat → Prop) (db : Nat) (v0 v2 v3 v4 v5 : Value) (v1 : Value) (w : World) (hb : w.heap[db]? = some (.cells #[v0, v1, v2, v3, v4, v5] 118 (0, 0))) (A : Option Addr) (c : Nat) (l : List ByteArray) (hl : rdStr.Sl F w A c (tableB :: l)) (hn : l.length ≤ 100000) (s : ByteArray) (P : World → Prop)
    (h : ∀ A' c', rdStr.Sl F w A' c' l → Calls Tryz.prog 107 #[.pointer (some ⟨db, 0, none⟩), .slice A' l.length c'] w fun e w' => e = .returned (.string s) ∧ P w') :
    Calls Tryz.prog 47 #[.pointer (some ⟨db, 0, none⟩), .slice A (l.length + 1) c] w fun e w' => e = .returned (.string s) ∧ P w' := by
  obtain ⟨A2, hrun, hs2⟩ := hl.suf elStr 1 l.length 1 (by simp) rfl (by simp)
  obtain ⟨b1, o1, rfl, hc⟩ := str_get hl (k := 0) (by simp)
  simp only [List.getElem_cons_zero, Nat.add_zero] at hc
  have HC := As.mk (h A2 (c - 1) hs2)
  have hL : (tableB :: l).length = l.length + 1 := rfl
  rw [hL] at hrun
  have n1 : (0 : Int) < (l.length : Int) + 1 := by omega
  (have p0 := blk_cell (hb) 0; have p1 := blk_cell (hb) 1; have p2 := blk_cell (hb) 2; have p3 := blk_cell (hb) 3; have p4 := blk_cell (hb) 4; have p5 := blk_cell (hb) 5)
  clear hl hs2 h hL hb
  go_enter Tryz.func47, Tryz.ntmps47
  go_wp2_with (fail)
  refine HC.out.mono ?_; rintro e w1 ⟨rfl, hP⟩
  go_wp2_with (fail)
  go_ret
  exact ⟨rfl, hP⟩
theorem lineInsertC (F : Nat → Prop) (db : Nat) (v0 v2 v3 v4 v5 : Value) (tg : Nat) (w : World) (hb : w.heap[db]? = some (.cells #[v0, PX tg, v2, v3, v4, v5] 118 (0, 0))) (A : Option Addr) (c : Nat) (l : List ByteArray) (hl : rdStr.Sl F w A c (insertB :: l)) (hn : l.length ≤ 100000) (s : ByteArray) (P : World → Prop)
    (h : ∀ A' c', rdStr.Sl F w A' c' l → Calls Tryz.prog 108 #[.pointer (some ⟨db, 0, none⟩), .slice A' l.length c'] w fun e w' => e = .returned (.string s) ∧ P w') :
    Calls Tryz.prog 47 #[.pointer (some ⟨db, 0, none⟩), .slice A (l.length + 1) c] w fun e w' => e = .returned (.string s) ∧ P w' := by
  obtain ⟨A2, hrun, hs2⟩ := hl.suf elStr 1 l.length 1 (by simp) rfl (by simp)
  obtain ⟨b1, o1, rfl, hc⟩ := str_get hl (k := 0) (by simp)
  simp only [List.getElem_cons_zero, Nat.add_zero] at hc
  have HC := As.mk (h A2 (c - 1) hs2)
  have hL : (insertB :: l).length = l.length + 1 := rfl
  rw [hL] at hrun
  have n1 : (0 : Int) < (l.length : Int) + 1 := by omega
  (have p0 := blk_cell (hb) 0; have p1 := blk_cell (hb) 1; have p2 := blk_cell (hb) 2; have p3 := blk_cell (hb) 3; have p4 := blk_cell (hb) 4; have p5 := blk_cell (hb) 5)
  clear hl hs2 h hL hb
  go_enter Tryz.func47, Tryz.ntmps47
  go_wp2_with (fail)
  refine HC.out.mono ?_; rintro e w1 ⟨rfl, hP⟩
  go_wp2_with (fail)
  go_ret
  exact ⟨rfl, hP⟩
theorem lineGetC (F : Nat → Prop) (db : Nat) (v0 v2 v3 v4 v5 : Value) (tg : Nat) (w : World) (hb : w.heap[db]? = some (.cells #[v0, PX tg, v2, v3, v4, v5] 118 (0, 0))) (A : Option Addr) (c : Nat) (l : List ByteArray) (hl : rdStr.Sl F w A c (getB :: l)) (hn : l.length ≤ 100000) (s : ByteArray) (P : World → Prop)
    (h : ∀ A' c', rdStr.Sl F w A' c' l → Calls Tryz.prog 109 #[.pointer (some ⟨db, 0, none⟩), .slice A' l.length c'] w fun e w' => e = .returned (.string s) ∧ P w') :
    Calls Tryz.prog 47 #[.pointer (some ⟨db, 0, none⟩), .slice A (l.length + 1) c] w fun e w' => e = .returned (.string s) ∧ P w' := by
  obtain ⟨A2, hrun, hs2⟩ := hl.suf elStr 1 l.length 1 (by simp) rfl (by simp)
  obtain ⟨b1, o1, rfl, hc⟩ := str_get hl (k := 0) (by simp)
  simp only [List.getElem_cons_zero, Nat.add_zero] at hc
  have HC := As.mk (h A2 (c - 1) hs2)
  have hL : (getB :: l).length = l.length + 1 := rfl
  rw [hL] at hrun
  have n1 : (0 : Int) < (l.length : Int) + 1 := by omega
  (have p0 := blk_cell (hb) 0; have p1 := blk_cell (hb) 1; have p2 := blk_cell (hb) 2; have p3 := blk_cell (hb) 3; have p4 := blk_cell (hb) 4; have p5 := blk_cell (hb) 5)
  clear hl hs2 h hL hb
  go_enter Tryz.func47, Tryz.ntmps47
  go_wp2_with (fail)
  refine HC.out.mono ?_; rintro e w1 ⟨rfl, hP⟩
  go_wp2_with (fail)
  go_ret
  exact ⟨rfl, hP⟩
theorem crashDC (F : Nat → Prop) (db dg mg : Nat) (hdF : F db) (D : Dsk) (d1 d2 d3 d4 d5 : Value) (w : World) (h : DiskAt F w dg mg D) (hcl : D.clean = true) (hsafe : ∀ p ∈ D.M, ∃ fb : List Int, D.files[p.2]? = some (fb, (fb.length : Int)))
    (hb : w.heap[db]? = some (.cells #[BX dg, d1, d2, d3, d4, d5] 118 (0, 0))) (A : Option Addr) (c : Nat) (ch : Nat) (hch : ch ≤ 999999) (ts : List Int) (htv : ∀ t ∈ ts, 0 ≤ t ∧ t ≤ 999999) (htl : ts.length ≤ 1000) (hl : (rdInt .i64).Sl F w A c ((ch : Int) :: ts)) (hF : ∀ k, F k → k < w.heap.size) :
    Calls Tryz.prog 203 #[.pointer (some ⟨db, 0, none⟩), .slice A (ts.length + 1) c] w fun e w' => e = .returned (.string ⟨#[111, 107]⟩) ∧ ∃ dg' mg', w.heap.size ≤ dg' ∧ w.heap.size ≤ mg' ∧ DiskAt F w' dg' mg' (crD D) ∧ w'.heap[db]? = some (.cells #[BX dg', .pointer none, d2, d3, d4, d5] 118 (0, 0)) ∧ Keep (fun k => k = db) w w' := by
  obtain ⟨A2, hrun, hs2⟩ := hl.suf K7.elInt 1 ts.length 1 (by simp) rfl (by simp)
  obtain ⟨b1, o1, rfl, hc⟩ := int_get hl (k := 0) (by simp)
  simp only [List.getElem_cons_zero, Nat.add_zero] at hc
  have hL : ((ch : Int) :: ts).length = ts.length + 1 := rfl
  rw [hL] at hrun
  have n1 : (0 : Int) < (ts.length : Int) + 1 := by omega
  have hcr := fun W (hW : Ext w W) => crashC F dg mg D W (h.ext hW) hcl hsafe ch hch A2 (c - 1) ts (Rd.Sl.ext hs2 hW) htl htv (FExt hF hW)
  have HCR := As.mk hcr
  have HB := As.mk hb
  (have p0 := blk_cell (hb) 0; have pf0 := blk_froz (hb) 0; have p1 := blk_cell (hb) 1; have pf1 := blk_froz (hb) 1; have p2 := blk_cell (hb) 2; have pf2 := blk_froz (hb) 2; have p3 := blk_cell (hb) 3; have pf3 := blk_froz (hb) 3; have p4 := blk_cell (hb) 4; have pf4 := blk_froz (hb) 4; have p5 := blk_cell (hb) 5; have pf5 := blk_froz (hb) 5)
  clear hl hs2 hcr hL hb h hsafe htv
  go_enter Tryz.func203, Tryz.ntmps203
  go_wp2_with (fail)
  go_region_law (first | (go_simp; go_at_call 282; with_reducible refine Calls.mono (HCR.out _ ?_) ?_; exact (by (repeat (first | with_reducible refine Ext.drew ?_ | with_reducible refine Ext.drewN ?_ _ | with_reducible refine Ext.alloc ?_ _)); first | with_reducible assumption | with_reducible exact Ext.refl _); rintro e w2 ⟨dg', mg', rfl, hd1, hd2, hD2, hE2⟩; have hx2 := Ext.trans (a := w) (by (repeat (first | with_reducible refine Ext.drew ?_ | with_reducible refine Ext.drewN ?_ _ | with_reducible refine Ext.alloc ?_ _)); first | with_reducible assumption | with_reducible exact Ext.refl _) hE2; have hb2 := hx2.blk HB.out; (have q0 := blk_cell (hb2) 0; have qf0 := blk_froz (hb2) 0; have q1 := blk_cell (hb2) 1; have qf1 := blk_froz (hb2) 1; have q2 := blk_cell (hb2) 2; have qf2 := blk_froz (hb2) 2; have q3 := blk_cell (hb2) 3; have qf3 := blk_froz (hb2) 3; have q4 := blk_cell (hb2) 4; have qf4 := blk_froz (hb2) 4; have q5 := blk_cell (hb2) 5; have qf5 := blk_froz (hb2) 5); dsimp only))
  all_goals
    (try simp only [Exit.inBlock, Exit.then])
    go_wp2_with (fail)
    refine (toldC _).mono ?_; rintro e w3 ⟨rfl, rfl⟩
    go_wp2_with (fail)
    go_ret
    have P1 := blk_set (blk_set hb2 0 (BX dg')) 1 (.pointer none)
    have K1 := (keep_set1 w2 db 0 (BX dg')).trans (keep_set1 _ db 1 (.pointer none))
    refine ⟨rfl, dg', mg', Nat.le_trans (Ext.size (w := w) (by (repeat (first | with_reducible refine Ext.drew ?_ | with_reducible refine Ext.drewN ?_ _ | with_reducible refine Ext.alloc ?_ _)); first | with_reducible assumption | with_reducible exact Ext.refl _)) hd1, Nat.le_trans (Ext.size (w := w) (by (repeat (first | with_reducible refine Ext.drew ?_ | with_reducible refine Ext.drewN ?_ _ | with_reducible refine Ext.alloc ?_ _)); first | with_reducible assumption | with_reducible exact Ext.refl _)) hd2, ?_, ?_, ?_⟩
    · first | exact hD2.keep (K1.mono (fun _ _ q => by subst q; exact hdF)) | exact (hD2.keep (K1.mono (fun _ _ q => by subst q; exact hdF))).ext (Ext.refl _).drew
    · first | exact P1 | exact (Ext.refl _).drew.blk P1
    · first | exact (hx2.keep _).trans K1 | exact ((hx2.keep _).trans K1).post (Ext.refl _).drew
theorem lineCrashC (F : Nat → Prop) (db : Nat) (v0 v1 v2 v3 v4 v5 : Value) (w : World) (hb : w.heap[db]? = some (.cells #[v0, v1, v2, v3, v4, v5] 118 (0, 0))) (A : Option Addr) (c : Nat) (l : List ByteArray) (hl : rdStr.Sl F w A c (crashB :: l)) (hn : l.length ≤ 1000) (ns : List Int) (hs : SaysL w l ns) (h1 : 1 ≤ ns.length) (hF : ∀ k, F k → k < w.heap.size) (s : ByteArray) (P : World → Prop)
    (h : ∀ W A' c', Ext w W → (rdInt .i64).Sl F W A' c' ns → Calls Tryz.prog 203 #[.pointer (some ⟨db, 0, none⟩), .slice A' ns.length c'] W fun e w' => e = .returned (.string s) ∧ P w') :
    Calls Tryz.prog 47 #[.pointer (some ⟨db, 0, none⟩), .slice A (l.length + 1) c] w fun e w' => e = .returned (.string s) ∧ P w' := by
  obtain ⟨A2, hrun, hs2⟩ := hl.suf elStr 1 l.length 1 (by simp) rfl (by simp)
  obtain ⟨b1, o1, rfl, hc⟩ := str_get hl (k := 0) (by simp)
  simp only [List.getElem_cons_zero, Nat.add_zero] at hc
  have HC := As.mk h
  have hL : (crashB :: l).length = l.length + 1 := rfl
  rw [hL] at hrun
  have n1 : (0 : Int) < (l.length : Int) + 1 := by omega
  have HNUM := As.mk (numbersC F A2 (c - 1) l ns w hs2 (by omega) hs hF)
  have hnl : As (ns.length = l.length) := ⟨hs.1.symm⟩
  have hns : ns.length ≤ 1000 := by have := hs.1; omega
  (have p0 := blk_cell (hb) 0; have p1 := blk_cell (hb) 1; have p2 := blk_cell (hb) 2; have p3 := blk_cell (hb) 3; have p4 := blk_cell (hb) 4; have p5 := blk_cell (hb) 5)
  clear hl hs2 h hL hb hs
  go_enter Tryz.func47, Tryz.ntmps47
  go_wp2_with (fail)
  refine HNUM.out.mono ?_; rintro e w1 ⟨v1, rfl, hown1, hE1⟩
  obtain ⟨An, cn, rfl, hns1⟩ := hown1.shut hF
  have hc1 := hE1.cell hc
  clear hc hown1 HNUM p0 p1 p2 p3 p4 p5
  go_upto_region 8 with (fail)
  go_cut [7, 8] (fun r ok wx => ∃ zb, r = .pointer (some ⟨zb, 0, none⟩) ∧ ok = .bool true ∧ wx.heap[zb]? = some (.cells #[.int .i64 1, .int .i64 1048576, .bool false, .func (.func 203) #[] #[]] 187 (0, 0)) ∧ Ext w1 wx)
  case first =>
    have hc1a := ((Ext.refl w1).alloc (.cells #[.int .i64 0, .int .i64 0, .bool false, .nilFunc] 187)).cell hc1
    go_region_law (first | (go_simp; go_at_call 111; refine (ordersC _).mono ?_; rintro e w2 ⟨bm, es, rfl, hbm, hO, hin, hE2⟩; have hx2 := Ext.trans (a := w1) (by (repeat (first | with_reducible refine Ext.drew ?_ | with_reducible refine Ext.drewN ?_ _ | with_reducible refine Ext.alloc ?_ _)); first | with_reducible assumption | with_reducible exact Ext.refl _) hE2; have hc2 := hx2.cell hc1; have hlk := hO.look kCrash hin (by simp); have B4 := hE2.blk (blk_new w1 (.cells #[.int .i64 0, .int .i64 0, .bool false, .nilFunc] 187)); (have z0 := blk_cell (B4) 0; have zf0 := blk_froz (B4) 0; have z1 := blk_cell (B4) 1; have zf1 := blk_froz (B4) 1; have z2 := blk_cell (B4) 2; have zf2 := blk_froz (B4) 2; have z3 := blk_cell (B4) 3; have zf3 := blk_froz (B4) 3); dsimp only) | (go_simp; go_at_call 111; refine (ordersC _).mono ?_; rintro e w2 ⟨bm, es, rfl, hbm, hO, hin, hE2⟩; have hx2 := Ext.trans (a := w1) (by (repeat (first | with_reducible refine Ext.drew ?_ | with_reducible refine Ext.drewN ?_ _ | with_reducible refine Ext.alloc ?_ _)); first | with_reducible assumption | with_reducible exact Ext.refl _) hE2; have hc2 := hx2.cell hc1; have hlk := hO.look kCrash hin (by simp); have B4 := blk_new w2 (.cells #[.int .i64 0, .int .i64 0, .bool false, .nilFunc] 187); have hO2 := hO.ext ((Ext.refl w2).alloc (.cells #[.int .i64 0, .int .i64 0, .bool false, .nilFunc] 187)); have hlk2 := hO2.look kCrash hin (by simp); have hc3 := ((Ext.refl w2).alloc (.cells #[.int .i64 0, .int .i64 0, .bool false, .nilFunc] 187)).cell hc2; (have z0 := blk_cell (B4) 0; have zf0 := blk_froz (B4) 0; have z1 := blk_cell (B4) 1; have zf1 := blk_froz (B4) 1; have z2 := blk_cell (B4) 2; have zf2 := blk_froz (B4) 2; have z3 := blk_cell (B4) 3; have zf3 := blk_froz (B4) 3); dsimp only))
    all_goals
      (try simp only [Exit.inBlock, Exit.then])
      go_wp2_with (fail)
      go_meet
      first
        | with_reducible exact ⟨w2.heap.size, rfl, rfl, blk_new _ _, hx2.alloc _⟩
        | (have P4 := put4 B4 (.int .i64 1) (.int .i64 1048576) (.bool false) (.func (.func 203) #[] #[]); have q := hx2.keepNew P4.2 (fun j q => Nat.le_of_eq q.symm); first | with_reducible exact ⟨w1.heap.size, rfl, rfl, P4.1, q⟩ | with_reducible exact ⟨w1.heap.size, rfl, rfl, (Ext.refl _).drew.blk P4.1, q.drew⟩)
  case rest =>
    obtain ⟨zb, rfl, rfl, hz, hE2⟩ := hcut
    generalize wc = w2 at *
    (have z0 := blk_cell (hz) 0; have z1 := blk_cell (hz) 1; have z2 := blk_cell (hz) 2; have z3 := blk_cell (hz) 3)
    have HC2 := As.mk (HC.out w2 An cn (hE1.trans hE2) (Rd.Sl.ext hns1 hE2))
    have m1 : ¬ (ns.length : Int) < 1 := by omega
    have m2 : ¬ (1048576 : Int) < (ns.length : Int) := by omega
    clear hc1 hz hns1
    go_wp2_with (fail)
    refine HC2.out.mono ?_; rintro e w3 ⟨rfl, hP⟩
    go_wp2_with (fail)
    go_ret
    exact ⟨rfl, hP⟩
end K97
end Go.Proofs.YtbjeejimedhniaaGreatDoor
