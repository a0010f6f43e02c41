/- Contracts of the program's functions, as the walks of the law use them. -/
import Derived.Test.YtbjeejimedhniaaGreatDoorD19
import Derived.Test.YtbjeejimedhniaaGreatDoorD24
import Derived.Test.YtbjeejimedhniaaGreatDoorD26
import Derived.Test.YtbjeejimedhniaaGreatDoorD25
set_option linter.unusedVariables false
set_option linter.unusedSimpArgs false
set_option maxRecDepth 100000
set_option maxHeartbeats 2000000
namespace Go.Proofs.YtbjeejimedhniaaGreatDoor
namespace P9
open KB K1 K17 P5 P6 P8 K35 K38 K54 K56 K57 K58 K87
theorem holds_safe {D : Dsk} {s : Sch} {lg : List Int} {ps : List (Int × List Row)} {all : List Int} (h : Holds D s lg ps all) (hall : ∀ n ∈ all, ∃ p ∈ ps, p.1 = n) : ∀ p ∈ D.M, ∃ fb : List Int, D.files[p.2]? = some (fb, (fb.length : Int)) := by
 intro p hp
 have hg := mem_getA h.srt hp
 rcases List.mem_cons.1 (h.only _ (List.mem_map.2 ⟨p, hp, rfl⟩)) with e | e
 · obtain ⟨i, hi, hf⟩ := h.log_
   rw [e, hi] at hg; cases hg
   exact ⟨_, hf⟩
 · obtain ⟨n, hn, e⟩ := List.mem_map.1 e
   obtain ⟨q, hq, rfl⟩ := hall n hn
   obtain ⟨i, hi, hf⟩ := h.part q hq
   rw [← e, hi] at hg; cases hg
   exact ⟨_, hf⟩
theorem cr_get (M : List (ByteArray × Nat)) (hM : SrtA M) (n : ByteArray) (i : Nat) (h : getA n M = some i) : ∃ j, ∃ hj : j < M.length, M[j] = (n, i) ∧ getA n (crM (M.map (·.1))) = some j := by
 have hm := getA_mem h
 obtain ⟨j, hj, e⟩ := List.getElem_of_mem hm
 refine ⟨j, hj, e, ?_⟩
 have hs : SrtA (crM (M.map (·.1))) := by
   have h1 : ((crM (M.map (·.1))).map (·.1)).Pairwise ltN := by rw [crM_map]; exact List.pairwise_map.2 hM
   exact List.pairwise_map.1 h1
 refine mem_getA hs ?_
 have : (crM (M.map (·.1)))[j]? = some (n, j) := by
   simp [crM, List.getElem?_zipIdx, List.getElem?_eq_getElem hj, e]
 exact List.mem_of_getElem? this
theorem has_cr {D : Dsk} (hM : SrtA D.M) {n : ByteArray} {f : FileM} (h : Has D n f) : Has (crD D) n f := by
 obtain ⟨i, hi, hf⟩ := h
 obtain ⟨j, hj, e, hg⟩ := cr_get D.M hM n i hi
 refine ⟨j, hg, ?_⟩
 show (D.M.map fun p => D.files.getD p.2 ([], 0))[j]? = some f
 rw [List.getElem?_map, List.getElem?_eq_getElem hj, e]
 simp [List.getD_eq_getElem?_getD, hf]
theorem crM_mem {l : List ByteArray} {p : ByteArray × Nat} (h : p ∈ crM l) : p.2 < l.length ∧ l[p.2]? = some p.1 := by
 have h2 := List.mem_zipIdx' h
 exact ⟨h2.1, by rw [List.getElem?_eq_getElem h2.1, ← h2.2]⟩
theorem holds_cr {D : Dsk} {s : Sch} {lg : List Int} {ps : List (Int × List Row)} {all : List Int} (h : Holds D s lg ps all) : Holds (crD D) s lg ps all := by
 have hs : SrtA (crD D).M := by
   have h1 : ((crM (D.M.map (·.1))).map (·.1)).Pairwise ltN := by rw [crM_map]; exact List.pairwise_map.2 h.srt
   exact List.pairwise_map.1 h1
 refine ⟨hs, fun p hp => ?_, fun p hp q hq e => ?_, has_cr h.srt h.log_, fun p hp => has_cr h.srt (h.part p hp), fun n hn => h.only n ?_, h.rng, h.sub⟩
 · have := (crM_mem hp).1
   show p.2 < (D.M.map _).length
   rw [List.length_map] at this ⊢; exact this
 · have h1 := (crM_mem hp).2
   have h2 := (crM_mem hq).2
   rw [e, h2] at h1; injection h1 with h1; exact h1.symm
 · have : (crD D).M.map (·.1) = D.M.map (·.1) := crM_map _
   rwa [this] at hn
theorem room_cr {D : Dsk} {k c : Nat} (h : Room D k c) : Room (crD D) k c := by
 refine ⟨h.quota, by show (crM (D.M.map (·.1))).length ≤ k; rw [crM_len, List.length_map]; exact h.names, fun f hf => ?_, by show D.M.length ≤ _; have := h.names; omega⟩
 obtain ⟨p, hp, rfl⟩ := List.mem_map.1 hf
 rw [List.getD_eq_getElem?_getD]
 cases e : D.files[p.2]? with
 | none => exact Nat.zero_le _
 | some f => exact h.files f (List.mem_of_getElem? e)
theorem holds_saved {D : Dsk} {s : Sch} {lg : List Int} {ps : List (Int × List Row)} {all : List Int} (h : Holds D s lg ps all) (b : List Int) : Holds (saved D b 6) s b ps all := by
 have hM : ∀ {p}, p ∈ (saved D b 6).M → p = (logS, D.files.length) ∨ p ∈ D.M := fun hp => mem_putA hp
 have hL : (saved D b 6).files.length = D.files.length + 1 := by simp [saved]
 refine ⟨srt_put _ _ _ h.srt, fun p hp => ?_, fun p hp q hq e => ?_, ⟨D.files.length, ?_, ?_⟩, fun p hp => ?_, fun n hn => ?_, h.rng, h.sub⟩
 · rw [hL]
   rcases hM hp with e | e
   · rw [e]; exact Nat.lt_succ_self _
   · have := h.idx p e; omega
 · rcases hM hp with e1 | e1 <;> rcases hM hq with e2 | e2
   · rw [e1, e2]
   · rw [e1] at e; have := h.idx q e2; simp at e; omega
   · rw [e2] at e; have := h.idx p e1; simp at e; omega
   · exact h.inj p e1 q e2 e
 · show getA logS (putA _ _ _) = _
   rw [getA_put, if_pos rfl]
 · show (D.files ++ [_])[D.files.length]? = _
   simp
 · obtain ⟨i, hi, hf⟩ := h.part p hp
   refine ⟨i, ?_, ?_⟩
   · show getA _ (putA _ _ _) = _
     rw [getA_put, if_neg (nameS_log _).1]; exact hi
   · show (D.files ++ [_])[i]? = _
     rw [List.getElem?_append_left (get_lt h hi)]; exact hf
 · obtain ⟨p, hp, rfl⟩ := List.mem_map.1 hn
   rcases hM hp with e | e
   · rw [e]; exact List.mem_cons_self ..
   · exact h.only _ (List.mem_map.2 ⟨p, e, rfl⟩)
theorem holds0 (D : Dsk) (hD : D.M = []) (hf : D.files = []) (s : Sch) (b : List Int) : Holds (saved D b 6) s b [] [] := by
 have hM : ∀ {p}, p ∈ (saved D b 6).M → p = (logS, D.files.length) := fun hp => by
   rcases mem_putA hp with e | e
   · exact e
   · rw [hD] at e; cases e
 refine ⟨srt_put _ _ _ (by rw [hD]; exact .nil), fun p hp => ?_, fun p hp q hq e => (by rw [hM hp, hM hq]), ⟨D.files.length, ?_, ?_⟩, fun p hp => (by cases hp), fun n hn => ?_, fun n hn => (by cases hn), fun p hp => (by cases hp)⟩
 · rw [hM hp]; simp [saved]
 · show getA logS (putA _ _ _) = _
   rw [getA_put, if_pos rfl]
 · show (D.files ++ [_])[D.files.length]? = _
   simp
 · obtain ⟨p, hp, rfl⟩ := List.mem_map.1 hn
   rw [hM hp]; exact List.mem_cons_self ..
theorem room_saved {D : Dsk} {k c : Nat} (h : Room D k c) (b : List Int) (hb : b.length ≤ c) : Room (saved D b 6) (k + 1) c := by
 refine ⟨h.quota, Nat.le_trans (put_le _ _ _) (Nat.succ_le_succ h.names), fun f hf => ?_, (by show D.lim + 8 ≤ _; have := h.lim; omega)⟩
 rcases List.mem_append.1 hf with q | q
 · exact h.files f q
 · simp at q; rw [q]; exact hb
end P9
namespace K103
open Go Go.RowKit
open KB KB2 P2 K1 K2 K3 K17 P5 P6 P8 P9 K25 K35 K38 K42 K54 K55 K56 K57 K58 K31 K65 K70 K71 K72 K75 K77 K81 K87 K88 K89 K91 K92 K93 K94 K95 K97
def StDisk (y : Nat) (D : Dsk) (O T : Nat → Prop) (W : World) : Prop :=
 ∃ dg mg d2 d3 d4 d5, DiskAt (fun q => O q ∨ q = y) W dg mg D ∧ W.heap[y]? = some (.cells #[BX dg, .pointer none, d2, d3, d4, d5] 118 (0, 0)) ∧ ¬ O y ∧ T = (fun q => q = y ∨ q = dg ∨ q = mg)
def StTab (y : Nat) (St : StM) (O T : Nat → Prop) (W : World) : Prop :=
 ∃ dg mg tg pv A c, StoreAt (fun q => O q ∨ q = y) W tg dg mg pv St ∧ W.heap[y]? = some (.cells (dkCells dg (PX tg) A c St.s) 118 (0, 0)) ∧ SchAt (fun q => O q ∨ T q) W A c St.s ∧ ¬ O y ∧ T = (fun q => q = y ∨ SB tg dg mg pv q)
theorem stDisk_keep {y : Nat} {D : Dsk} {O T : Nat → Prop} {W W' : World} (h : StDisk y D O T W) (k : Keep O W W') : StDisk y D O T W' := by
 obtain ⟨dg, mg, d2, d3, d4, d5, h1, h2, h3, h4⟩ := h
 exact ⟨dg, mg, d2, d3, d4, d5, h1.keep (k.mono (fun _ _ q => .inl q)), k.blk h3 h2, h3, h4⟩
theorem stDisk_narrow {y : Nat} {D : Dsk} {O O' T : Nat → Prop} {W : World} (h : StDisk y D O T W) (hO : ∀ q, q < W.heap.size → O' q → O q) : StDisk y D O' T W := by
 obtain ⟨dg, mg, d2, d3, d4, d5, h1, h2, h3, h4⟩ := h
 exact ⟨dg, mg, d2, d3, d4, d5, disk_narrow h1 (fun k hk q => q.imp (hO k hk) id), h2, fun q => h3 (hO y (blk_lt h2) q), h4⟩
theorem stDisk_own {y : Nat} {D : Dsk} {O T : Nat → Prop} {W : World} (h : StDisk y D O T W) : ∀ q, T q → q < W.heap.size ∧ ¬ O q := by
 obtain ⟨dg, mg, d2, d3, d4, d5, h1, h2, h3, rfl⟩ := h
 have hl := h1.lt
 rintro q (rfl | rfl | rfl)
 · exact ⟨blk_lt h2, h3⟩
 · exact ⟨hl.1, fun e => h1.fd (.inl e)⟩
 · exact ⟨hl.2, fun e => h1.fm (.inl e)⟩
theorem stTab_keep {y : Nat} {St : StM} {O T : Nat → Prop} {W W' : World} (h : StTab y St O T W) (k : Keep O W W') : StTab y St O T W' := by
 obtain ⟨dg, mg, tg, pv, A, c, h1, h2, h3, h4, h5⟩ := h
 exact ⟨dg, mg, tg, pv, A, c, h1.keep k (fun _ q => .inl q) (fun i hi q => h1.far i hi (.inl (.inl (.inl q)))), k.blk h4 h2, Rd.Sl.keep h3 (k.mono (fun _ _ q => .inl q)), h4, h5⟩
theorem stTab_narrow {y : Nat} {St : StM} {O O' T : Nat → Prop} {W : World} (h : StTab y St O T W) (hO : ∀ q, q < W.heap.size → O' q → O q) : StTab y St O' T W := by
 obtain ⟨dg, mg, tg, pv, A, c, h1, h2, h3, h4, h5⟩ := h
 exact ⟨dg, mg, tg, pv, A, c, store_narrow h1 (fun k hk q => q.imp (hO k hk) id), h2, Rd.Sl.narrow Nat.one_pos h3 (fun k hk q => q.imp (hO k hk) id), fun q => h4 (hO y (blk_lt h2) q), h5⟩
theorem store_tl {F : Nat → Prop} {w : World} {tg dg mg : Nat} {pv : Value} {St : StM} (h : StoreAt F w tg dg mg pv St) : tg < w.heap.size := by
 obtain ⟨A, c, Ai, ci, hb, _⟩ := h.at_
 exact blk_lt hb
theorem stTab_own {y : Nat} {St : StM} {O T : Nat → Prop} {W : World} (h : StTab y St O T W) : ∀ q, T q → q < W.heap.size ∧ ¬ O q := by
 obtain ⟨dg, mg, tg, pv, A, c, h1, h2, h3, h4, rfl⟩ := h
 have hl := h1.disk.lt
 rintro q (rfl | rfl | rfl | rfl | e)
 · exact ⟨blk_lt h2, h4⟩
 · exact ⟨store_tl h1, fun e => h1.ft (.inl e)⟩
 · exact ⟨hl.1, fun e => h1.disk.fd (.inl (.inl (.inl e)))⟩
 · exact ⟨hl.2, fun e => h1.disk.fm (.inl (.inl (.inl e)))⟩
 · exact ⟨(h1.parts.ge q e).2, fun o => h1.far q e (.inl (.inl (.inl o)))⟩
theorem lineOpen (y : Nat) (D : Dsk) (O T : Nat → Prop) (W : World) (h : StDisk y D O T W) (hO : ∀ q, O q → q < W.heap.size) (s : Sch) (hs : s.Ok) (wk wg : ByteArray) (hk : Says W 1 wk s.keys) (hg : Says W 1 wg s.grain) (A : Option Addr) (c : Nat)
   (hl : rdStr.Sl (fun q => O q ∨ T q) W A c (tableB :: modeW s.mode :: wk :: wg :: s.types.map typeW)) (n : Nat) (hn : n ≤ 40)
   (hload : ∀ (F : Nat → Prop) (dg mg : Nat) (A' : Option Addr) (c' : Nat) (W' : World), DiskAt F W' dg mg D → SchAt (DF F dg mg) W' A' c' s → (∀ k, F k → k < W'.heap.size) → Calls Tryz.prog 36 #[BX dg, schV A' c' s] W' fun e w' => ∃ As cs Ai ci, e = .returned (.tuple #[stV As cs s Ai ci (idsTo n) n, .int .i64 0]) ∧ SchAt (DF F dg mg) w' As cs s ∧ (rdInt .i64).Sl (DF F dg mg) w' Ai ci (idsTo n) ∧ Ext W' w')
   (parts : List (List Row)) (hpl : parts.length = n) (hparts : ∀ k (hk : k < parts.length), ∃ i fs, getA (nameS k) D.M = some i ∧ D.files[i]? = some (partB s parts[k], fs) ∧ PartOk s parts[k])
   (hlim : D.lim + 12 ≤ 100000) (hM : D.M.length < 200) (hno : getA newS D.M = none) (hem : getA emp D.M = none) (hu : used D.fs + (recHead s (idsTo n) n).length ≤ D.quota) (hb7 : (recHead s (idsTo n) n).length ≤ 10000000)
   (hst : ∀ nm ∈ (saved D (recHead s (idsTo n) n) 6).M.map (·.1), nm ∈ stays (idsTo n)) :
   Calls Tryz.prog 47 #[BX y, .slice A (s.types.length + 4) c] W fun e W' => e = .returned (.string ⟨#[111, 107]⟩) ∧ ∃ T', StTab y ⟨s, idsTo n, n, parts, saved D (recHead s (idsTo n) n) 6⟩ O T' W' ∧ Keep T W W' ∧ ∀ q, T' q → T q ∨ W.heap.size ≤ q := by
 have hown := stDisk_own h
 obtain ⟨dg, mg, d2, d3, d4, d5, h1, h2, h3, rfl⟩ := h
 have hll : (modeW s.mode :: wk :: wg :: s.types.map typeW).length = s.types.length + 3 := by simp
 have hFl : ∀ q, (O q ∨ q = y) → q < W.heap.size := fun q e => e.elim (hO q) (fun e => by rw [e]; exact blk_lt h2)
 have hGl : ∀ q, (O q ∨ q = y ∨ q = dg ∨ q = mg) → q < W.heap.size := fun q e => e.elim (hO q) (fun e => (hown q e).1)
 have hLC := lineTableC (fun q => O q ∨ q = y ∨ q = dg ∨ q = mg) y (BX dg) d2 d3 d4 d5 (.pointer none) W h2 A c (modeW s.mode :: wk :: wg :: s.types.map typeW) hl (by rw [hll]; have := hs.n2; omega) ⟨#[111, 107]⟩
   (fun W' => ∃ T', StTab y ⟨s, idsTo n, n, parts, saved D (recHead s (idsTo n) n) 6⟩ O T' W' ∧ Keep (fun q => q = y ∨ q = dg ∨ q = mg) W W' ∧ ∀ q, T' q → (q = y ∨ q = dg ∨ q = mg) ∨ W.heap.size ≤ q) ?_
 · rw [hll] at hLC; exact hLC
 intro A2 c2 hl2
 have hydg : ¬ y = dg := fun e => h1.fd (.inr e.symm)
 have hymg : ¬ y = mg := fun e => h1.fm (.inr e.symm)
 have hop := opensC (fun q => O q ∨ q = y ∨ q = dg ∨ q = mg) (fun q => O q ∨ q = y ∨ q = dg ∨ q = mg) (fun _ q => q) y dg (.pointer none) d2 d3 d4 d5 W h2 s hs (by have := hs.g2; omega) A2 c2 wk wg hl2 hk hg hGl (Two' dg mg) (fun k e => e.elim (fun e => by rw [e]; exact h1.lt.1) (fun e => by rw [e]; exact h1.lt.2)) (fun e => e.elim hydg hymg)
   (fun tg A' c' W' => ∃ pv, StoreAt (fun q => O q ∨ q = y) W' tg dg mg pv ⟨s, idsTo n, n, parts, saved D (recHead s (idsTo n) n) 6⟩ ∧ W.heap.size ≤ tg ∧ (∀ k, pv.ownBlock = some k → W.heap.size ≤ k) ∧ SchAt (fun q => O q ∨ (q = y ∨ SB tg dg mg pv q)) W' A' c' s ∧ Keep (Two' dg mg) W W') ?_
 · rw [hll]
   refine hop.mono ?_
   rintro e w' ⟨rfl, tg, A', c', W1, ⟨pv, hst1, htg, hpv, hA1, hK1⟩, hb1, hK2⟩
   have hpy : ∀ i, pv.ownBlock = some i → ¬ i = y := fun i hi e => by have h9 := hpv i hi; rw [e] at h9; have := blk_lt h2; omega
   refine ⟨rfl, _, ⟨dg, mg, tg, pv, A', c', hst1.keep hK2 (fun i e => .inr e) hpy, hb1, Rd.Sl.keep hA1 (hK2.mono (fun i _ e => .inr (.inl e))), h3, rfl⟩, (hK1.mono (fun q _ e => e.elim (fun e => .inr (.inl e)) (fun e => .inr (.inr e)))).trans (hK2.mono (fun q _ e => .inl e)), fun q hq => ?_⟩
   rcases hq with e | e | e | e | e
   · exact .inl (.inl e)
   · exact .inr (e ▸ htg)
   · exact .inl (.inr (.inl e))
   · exact .inl (.inr (.inr e))
   · exact .inr (hpv q e)
 · intro W1 A1 c1 hE1 hA1
   have hd1 := h1.ext hE1
   have hos := openSC (fun q => O q ∨ q = y) dg mg D W1 hd1 s hs A1 c1 (Rd.Sl.narrow Nat.one_pos hA1 (fun k _ e => e.elim (fun e => e.elim .inl (fun e => .inr (.inl e))) (fun e => .inr (.inr e)))) n hn
     (fun W2 hW2 => hload _ dg mg A1 c1 W2 (hd1.ext hW2) (Rd.Sl.ext (Rd.Sl.narrow Nat.one_pos hA1 (fun k _ e => e.elim (fun e => e.elim .inl (fun e => .inr (.inl e))) (fun e => .inr (.inr e)))) hW2) (FExt (FExt hFl hE1) hW2))
     parts hpl hparts hlim hM hno hem _ rfl hu hb7 hst (FExt hFl hE1)
   refine hos.mono ?_
   rintro e w' ⟨tg, pv, rfl, htg, hpv, hst1, hK1⟩
   have hs1 := hE1.size
   refine ⟨tg, rfl, ⟨pv, hst1, Nat.le_trans hs1 htg, fun k e => Nat.le_trans hs1 (hpv k e), ?_, hK1.pre hE1⟩, hK1⟩
   have hA2 := Rd.Sl.narrow (G := fun q => (O q ∨ q = y ∨ q = dg ∨ q = mg) ∨ W1.heap.size ≤ q) Nat.one_pos hA1 (fun k hk e => e.elim id (fun e => by omega))
   refine Rd.Sl.narrow Nat.one_pos (Rd.Sl.keep hA2 (hK1.mono (fun q _ e => .inl (e.elim (fun e => .inr (.inr (.inl e))) (fun e => .inr (.inr (.inr e))))))) (fun q _ e => ?_)
   rcases e with e | e | e | e | e | e
   · exact .inl (.inl e)
   · exact .inl (.inr (.inl e))
   · exact .inr (e ▸ htg)
   · exact .inl (.inr (.inr (.inl e)))
   · exact .inl (.inr (.inr (.inr e)))
   · exact .inr (hpv q e)
end K103
namespace K104
open Go Go.RowKit
open KB KB2 P2 K1 K2 K3 K5 K17 P5 P6 P8 P9 K25 K35 K38 K42 K54 K55 K56 K57 K58 K31 K65 K70 K71 K72 K75 K77 K81 K87 K88 K89 K91 K92 K93 K94 K95 K97 K103
def insSt (St : StM) (l : List Row) (li : Nat) (lg : List Int) : StM :=
 { St with ids := St.ids ++ [(St.next : Int)], next := St.next + 1, parts := St.parts ++ [sortS St.s l], D := wroteD St.D (nameS St.next) (partB St.s (sortS St.s l)) li (lg ++ recAdd St.next) }
theorem lineInsert (y : Nat) (St : StM) (O T : Nat → Prop) (W : World) (h : StTab y St O T W) (hO : ∀ q, O q → q < W.heap.size) (hs : St.s.Ok) (A : Option Addr) (c : Nat) (l : List ByteArray) (hln : l.length ≤ 10000)
   (hl : rdStr.Sl (fun q => O q ∨ T q) W A c (insertB :: l)) (rows : List Row) (sss : List (List ByteArray)) (hlb : l ++ [bar] = barred sss) (hsl : sss.length = rows.length) (hsay : ∀ k (h1 : k < rows.length) (h2 : k < sss.length), SaysR W St.s.types rows[k] sss[k] ∧ ∀ x ∈ sss[k], x ≠ bar)
   (hro : PartOk St.s (sortS St.s rows)) (hlr : ∀ r ∈ rows, RowOk St.s r) (h1 : 1 ≤ rows.length) (h2 : rows.length < 20) (hid : St.next < 100) (hpn : St.parts.length < 40) (hin : St.ids.length < 40) (htot : rows.length + sumL St.parts ≤ 2000) (hnx : ∀ n ∈ St.ids, n < St.next)
   (hlim : St.D.lim + 20 ≤ 100000) (hM : St.D.M.length < 200) (hno : getA (nameS St.next) St.D.M = none) (hem : getA ⟨#[]⟩ St.D.M = none)
   (li : Nat) (hli : getA logS St.D.M = some li) (lg : List Int) (ls : Int) (hlf : St.D.files[li]? = some (lg, ls)) (hu : used St.D.fs + (partB St.s (sortS St.s rows)).length + (recAdd St.next).length ≤ St.D.quota) (hls : lg.length + (recAdd St.next).length ≤ 10000000) :
   Calls Tryz.prog 47 #[BX y, .slice A (l.length + 1) c] W fun e W' => e = .returned (.string ⟨#[111, 107]⟩) ∧ ∃ T', StTab y (insSt St rows li lg) O T' W' ∧ Keep T W W' ∧ ∀ q, T' q → T q ∨ W.heap.size ≤ q := by
 have hown := stTab_own h
 obtain ⟨dg, mg, tg, pv, Ad, cd, g1, g2, g3, g4, rfl⟩ := h
 have hGl : ∀ q, (O q ∨ (q = y ∨ SB tg dg mg pv q)) → q < W.heap.size := fun q e => e.elim (hO q) (fun e => (hown q e).1)
 have hFl : ∀ q, (O q ∨ q = y) → q < W.heap.size := fun q e => hGl q (e.elim .inl (fun e => .inr (.inl e)))
 have hG2 : ∀ q, Fv (SF (fun q => O q ∨ q = y) tg dg mg) pv q ↔ (O q ∨ (q = y ∨ SB tg dg mg pv q)) := fun q => by
   constructor
   · rintro ((((e | e) | e) | e | e) | e)
     · exact .inl e
     · exact .inr (.inl e)
     · exact .inr (.inr (.inl e))
     · exact .inr (.inr (.inr (.inl e)))
     · exact .inr (.inr (.inr (.inr (.inl e))))
     · exact .inr (.inr (.inr (.inr (.inr e))))
   · rintro (e | e | e | e | e | e)
     · exact .inl (.inl (.inl (.inl e)))
     · exact .inl (.inl (.inl (.inr e)))
     · exact .inl (.inl (.inr e))
     · exact .inl (.inr (.inl e))
     · exact .inl (.inr (.inr e))
     · exact .inr e
 refine lineInsertC (fun q => O q ∨ (q = y ∨ SB tg dg mg pv q)) y (BX dg) _ _ _ _ tg W g2 A c l hl (by omega) ⟨#[111, 107]⟩ _ ?_
 intro A2 c2 hl2
 refine insertDC (fun q => O q ∨ (q = y ∨ SB tg dg mg pv q)) (Fv (SF (fun q => O q ∨ q = y) tg dg mg) pv) (fun q e => (hG2 q).2 e) y dg tg St.s W Ad cd g2 g3 hs.n2 A2 c2 l hl2 hln rows sss hlb hsl hsay (fun q e => hGl q ((hG2 q).1 e)) _ ?_
 intro W1 A1 c1 hE1 hr1
 have hi := insertC (fun q => O q ∨ q = y) tg dg mg pv St hs rows hro hlr h1 h2 W1 (g1.ext hE1) hid hpn hin htot hnx hlim hM hno hem li hli lg ls hlf hu hls A1 c1 hr1 (FExt hFl hE1)
 refine hi.mono ?_
 rintro e w' ⟨rfl, pv', hs1, hpv, hK1⟩
 have hs1s := hE1.size
 have hy : ¬ SB tg dg mg pv y := by
   rintro (e | e | e | e)
   · exact g1.ft (.inr e.symm)
   · exact g1.disk.fd (.inl (.inl (.inr e.symm)))
   · exact g1.disk.fm (.inl (.inl (.inr e.symm)))
   · exact g1.far y e (.inl (.inl (.inr rfl)))
 refine ⟨rfl, _, ⟨dg, mg, tg, pv', Ad, cd, hs1, hK1.blk hy (hE1.blk g2), ?_, g4, rfl⟩, (hK1.pre hE1).mono (fun q _ e => .inr e), fun q hq => ?_⟩
 · have hA2 := Rd.Sl.ext (Rd.Sl.narrow (G := fun q => (O q ∨ (q = y ∨ SB tg dg mg pv q)) ∨ W.heap.size ≤ q) Nat.one_pos g3 (fun k hk e => e.elim id (fun e => by omega))) hE1
   refine Rd.Sl.narrow Nat.one_pos (Rd.Sl.keep hA2 (hK1.mono (fun q _ e => .inl (.inr (.inr e))))) (fun q _ e => ?_)
   rcases e with e | e | e | e | e | e
   · exact .inl (.inl e)
   · exact .inl (.inr (.inl e))
   · exact .inl (.inr (.inr (.inl e)))
   · exact .inl (.inr (.inr (.inr (.inl e))))
   · exact .inl (.inr (.inr (.inr (.inr (.inl e)))))
   · rcases hpv q e with h9 | h9
     · exact .inl (.inr (.inr (.inr (.inr (.inr h9)))))
     · exact .inr (Nat.le_trans hs1s h9)
 · rcases hq with e | e | e | e | e
   · exact .inl (.inl e)
   · exact .inl (.inr (.inl e))
   · exact .inl (.inr (.inr (.inl e)))
   · exact .inl (.inr (.inr (.inr (.inl e))))
   · rcases hpv q e with h9 | h9
     · exact .inl (.inr (.inr (.inr (.inr h9))))
     · exact .inr (Nat.le_trans hs1s h9)
theorem lineCrash (y : Nat) (St : StM) (O T : Nat → Prop) (W : World) (h : StTab y St O T W) (hO : ∀ q, O q → q < W.heap.size) (A : Option Addr) (c : Nat) (l : List ByteArray) (hln : l.length ≤ 1000)
   (hl : rdStr.Sl (fun q => O q ∨ T q) W A c (crashB :: l)) (ch : Nat) (hch : ch ≤ 999999) (ts : List Int) (htv : ∀ t ∈ ts, 0 ≤ t ∧ t ≤ 999999) (hsy : SaysL W l ((ch : Int) :: ts)) (hcl : St.D.clean = true) (hsafe : ∀ p ∈ St.D.M, ∃ fb : List Int, St.D.files[p.2]? = some (fb, (fb.length : Int))) :
   Calls Tryz.prog 47 #[BX y, .slice A (l.length + 1) c] W fun e W' => e = .returned (.string ⟨#[111, 107]⟩) ∧ ∃ T', StDisk y (crD St.D) O T' W' ∧ Keep T W W' ∧ ∀ q, T' q → T q ∨ W.heap.size ≤ q := by
 have hown := stTab_own h
 obtain ⟨dg, mg, tg, pv, Ad, cd, g1, g2, g3, g4, rfl⟩ := h
 have hGl : ∀ q, (O q ∨ (q = y ∨ SB tg dg mg pv q)) → q < W.heap.size := fun q e => e.elim (hO q) (fun e => (hown q e).1)
 have hFl : ∀ q, (O q ∨ q = y) → q < W.heap.size := fun q e => hGl q (e.elim .inl (fun e => .inr (.inl e)))
 have htl : ts.length ≤ 1000 := by have := hsy.1; simp at this; omega
 refine lineCrashC (fun q => O q ∨ (q = y ∨ SB tg dg mg pv q)) y (BX dg) (PX tg) _ _ _ _ W g2 A c l hl hln ((ch : Int) :: ts) hsy (by simp) hGl ⟨#[111, 107]⟩ _ ?_
 intro W1 A1 c1 hE1 hr1
 have hd := disk_narrow (G := fun q => O q ∨ q = y) g1.disk (fun k _ e => .inl (.inl e))
 have hc := crashDC (fun q => O q ∨ q = y) y dg mg (.inr rfl) St.D (PX tg) _ _ _ _ W1 (hd.ext hE1) hcl hsafe (hE1.blk g2) A1 c1 ch hch ts htv htl (hr1.narrow (by decide) (fun k _ e => e.elim .inl (fun e => .inr (.inl e)))) (FExt hFl hE1)
 refine hc.mono ?_
 rintro e w' ⟨rfl, dg', mg', k1, k2, hd2, hb2, hK⟩
 have hs1s := hE1.size
 refine ⟨rfl, _, ⟨dg', mg', _, _, _, _, hd2, hb2, g4, rfl⟩, (hK.pre hE1).mono (fun q _ e => .inl e), fun q hq => ?_⟩
 rcases hq with e | e | e
 · exact .inl (.inl e)
 · exact .inr (e ▸ Nat.le_trans hs1s k1)
 · exact .inr (e ▸ Nat.le_trans hs1s k2)
theorem lineGet (y : Nat) (St : StM) (O T : Nat → Prop) (W : World) (h : StTab y St O T W) (hO : ∀ q, O q → q < W.heap.size) (hs : St.s.Ok) (A : Option Addr) (c : Nat) (hl : rdStr.Sl (fun q => O q ∨ T q) W A c [getB, finalB])
   (hn : St.parts.length ≤ 1000) (hN : St.parts.flatten.length ≤ 100000) (ho : ∀ x ∈ St.parts, Srt (cmpS St.s) x ∧ ∀ r ∈ x, RowOk St.s r)
   (rows : List Row) (hrows : rows = told St.s true St.parts) (hr1 : rows.length < 100) (sss : List (List ByteArray)) (hsl : sss.length = rows.length) (hsay : ∀ k (h1 : k < rows.length) (h2 : k < sss.length), SaysR W St.s.types rows[k] sss[k] ∧ (joinL sss[k] ⟨#[32]⟩).length ≤ 1000000000) (hjl : (joinL (tells rows sss) ⟨#[10]⟩).length ≤ 1000000000) :
   Calls Tryz.prog 47 #[BX y, .slice A 2 c] W fun e W' => e = .returned (.string (BA (joinL (tells rows sss) ⟨#[10]⟩))) ∧ ∃ T', StTab y St O T' W' ∧ Keep T W W' ∧ ∀ q, T' q → T q ∨ W.heap.size ≤ q := by
 have hown := stTab_own h
 have h0 := h
 obtain ⟨dg, mg, tg, pv, Ad, cd, g1, g2, g3, g4, rfl⟩ := h
 have hGl : ∀ q, (O q ∨ (q = y ∨ SB tg dg mg pv q)) → q < W.heap.size := fun q e => e.elim (hO q) (fun e => (hown q e).1)
 have hFl : ∀ q, (O q ∨ q = y) → q < W.heap.size := fun q e => hGl q (e.elim .inl (fun e => .inr (.inl e)))
 refine lineGetC (fun q => O q ∨ (q = y ∨ SB tg dg mg pv q)) y (BX dg) _ _ _ _ tg W g2 A c [finalB] hl (by decide) _ _ ?_
 intro A2 c2 hl2
 have hg := getC (fun q => O q ∨ q = y) y dg mg tg pv St hs W g1 Ad cd g2 (Rd.Sl.narrow Nat.one_pos g3 (fun k _ e => e.elim .inl (fun e => .inr (.inl e)))) hn hN ho A2 c2 (hl2.narrow (by decide) (fun k _ e => e.elim .inl (fun e => .inr (.inl e)))) rows hrows hr1 sss hsl hsay hjl hFl
 refine hg.mono ?_
 rintro e w' ⟨rfl, hE⟩
 exact ⟨rfl, _, stTab_keep h0 (hE.keep _), hE.keep _, fun q e => .inl e⟩
end K104
namespace P10
open Num KB K1 K3 K5 K8 K14 K17 K25 P4 P5 P6 P8 P9 K35 K38 K54 K56 K57 K58 K72 K75 K77 K79 K87
theorem le4_len (x : Nat) : (le4 x).length = 4 := rfl
theorem frame_len (b : List Int) (h : b.length < 128) : (frame b).length = b.length + 5 := by
 rw [frame, pv_small h, List.length_append, List.length_append, le4_len]; simp; omega
theorem recAdd_len (id : Nat) (h : id < 128) : (recAdd id).length = 7 := by
 have hb : (bodyAdd id).length = 2 := by rw [bodyAdd, pv_small h]; rfl
 rw [recAdd, frame_len _ (by omega), hb]
theorem putN_len (l : List Int) (h : ∀ n ∈ l, 0 ≤ n ∧ n < 128) : (putN l).length = l.length := by
 induction l with
 | nil => rfl
 | cons n l ih =>
   have h0 := h n (List.mem_cons_self ..)
   rw [putN_cons, List.length_append, ih (fun m hm => h m (List.mem_cons_of_mem _ hm)), pv_small (by omega)]
   simp; omega
theorem recHead_len (s : Sch) (hs : s.Ok) (ids : List Int) (hn : ids.length ≤ 40) (hv : ∀ n ∈ ids, 0 ≤ n ∧ n < 128) (id : Nat) (h : id < 128) : (recHead s ids id).length ≤ 120 := by
 have h1 := putSch_le s hs
 have hb : (bodyHead s ids id).length ≤ 112 := by
   simp only [bodyHead, List.length_append, putN_len ids hv]
   rw [pv_small (by omega : (putSch s).length < 128), pv_small h, pv_small (by omega : ids.length < 128)]
   simp; omega
 rw [recHead, frame_len _ (by omega)]; omega
theorem recSwap_len (ids : List Int) (hn : ids.length ≤ 40) (hv : ∀ n ∈ ids, 0 ≤ n ∧ n < 128) (id : Nat) (h : id < 128) : (recSwap ids id).length ≤ 50 := by
 have hb : (bodySwap ids id).length ≤ 43 := by
   simp only [bodySwap, List.length_append, putN_len ids hv]
   rw [pv_small h, pv_small (by omega : ids.length < 128)]
   simp; omega
 rw [recSwap, frame_len _ (by omega)]; omega
structure Tabl (s : Sch) (St : StM) (lg : List Int) (k : Nat) : Prop where
 sch : St.s = s
 len : St.ids.length = St.parts.length
 holds : Holds St.D s lg (St.ids.zip St.parts) St.ids
 room : Room St.D k 4000
 nx : ∀ n ∈ St.ids, 0 ≤ n ∧ n < St.next
 lgl : lg.length ≤ 50 * k + 200
 nl : St.ids.length ≤ k
 nk : St.next ≤ k
 clean : St.D.clean = true
theorem idsTo_mem {n : Nat} {x : Int} : x ∈ idsTo n ↔ 0 ≤ x ∧ x < n := by
 simp only [idsTo, List.mem_map, List.mem_range]
 constructor
 · rintro ⟨a, h, rfl⟩; omega
 · rintro ⟨h1, h2⟩; exact ⟨x.toNat, by omega, by omega⟩
theorem tabl_new (s : Sch) (hs : s.Ok) (q : Nat) (hq : q = 1048576) : Tabl s ⟨s, idsTo 0, 0, [], saved ⟨q, 0, 0, [], [], true⟩ (recHead s (idsTo 0) 0) 6⟩ (recHead s (idsTo 0) 0) 1 := by
 have hl := recHead_len s hs (idsTo 0) (by simp [idsTo]) (fun n hn => by simp [idsTo] at hn) 0 (by decide)
 refine ⟨rfl, rfl, ?_, ?_, fun n hn => by simp [idsTo] at hn, by omega, by simp [idsTo], Nat.zero_le _, rfl⟩
 · have : (idsTo 0).zip ([] : List (List Row)) = [] := by simp
   show Holds _ s _ ((idsTo 0).zip []) (idsTo 0)
   rw [this]
   exact holds0 _ rfl rfl s _
 · exact room_saved (k := 0) ⟨hq, Nat.le_refl _, fun f hf => (by cases hf), Nat.zero_le _⟩ _ (by omega)
theorem zip_snoc {α β : Type} (a : List α) (b : List β) (h : a.length = b.length) (x : α) (y : β) : (a ++ [x]).zip (b ++ [y]) = a.zip b ++ [(x, y)] := by
 rw [List.zip_append h]; rfl
end P10
namespace K105
open Go Go.RowKit
open KB KB2 P2 K1 K2 K3 K17 P5 P6 P8 P9 K25 K35 K38 K42 K54 K55 K56 K57 K58 K31 K65 K70 K71 K72 K75 K77 K81 K87 K88 K89 K91 K92 K93 K94 K95 K97 K5 P4 P10 K103 K104
theorem tabl_ins {s : Sch} (hs : s.Ok) {St : StM} {lg : List Int} {k : Nat} (h : Tabl s St lg k) (hk : k < 99) (l : List Row) (hb : (partB s (sortS s l)).length ≤ 4000) (li : Nat) (hli : getA logS St.D.M = some li) (hll : 50 * (k + 1) + 200 ≤ 4000 ∨ k < 70) : Tabl s (insSt St l li lg) (lg ++ recAdd St.next) (k + 1) := by
 have hnk := h.nk
 have hrl : (recAdd St.next).length = 7 := recAdd_len _ (by omega)
 have hnot : (St.next : Int) ∉ St.ids := fun e => by have := h.nx _ e; omega
 have hlg := h.lgl
 obtain ⟨h1, h2, h3, h4, h5, h6, h7, h8, h9⟩ := h
 subst h1
 refine ⟨rfl, ?_, ?_, ?_, ?_, ?_, ?_, ?_, rfl⟩
 · show (St.ids ++ [(St.next : Int)]).length = (St.parts ++ [_]).length
   rw [List.length_append, List.length_append, h2]; rfl
 · show Holds (wroteD _ _ _ _ _) _ _ ((St.ids ++ [(St.next : Int)]).zip (St.parts ++ [sortS St.s l])) (St.ids ++ [(St.next : Int)])
   rw [zip_snoc _ _ h2]
   exact h3.wrote St.next (by omega) hnot _ li hli _
 · refine h4.wrote _ _ _ _ hb ?_
   rw [List.length_append, hrl]; omega
 · intro n hn
   rcases List.mem_append.1 hn with e | e
   · have := h5 n e
     show 0 ≤ n ∧ n < ((St.next + 1 : Nat) : Int)
     omega
   · simp at e
     show 0 ≤ n ∧ n < ((St.next + 1 : Nat) : Int)
     omega
 · rw [List.length_append, hrl]; omega
 · show (St.ids ++ [(St.next : Int)]).length ≤ k + 1
   rw [List.length_append]; simp; omega
 · show St.next + 1 ≤ k + 1
   omega
end K105
namespace K106
open Go Go.RowKit
open KB KB2 P2 K1 K2 K3 K17 P5 P6 P8 P9 K25 K35 K38 K42 K54 K55 K56 K57 K58 K31 K65 K70 K71 K72 K75 K77 K81 K87 K88 K89 K91 K92 K93 K94 K95 K97 K5 P4 P10 K79 K98 K99 K101 K102 K103 K104 K105
abbrev s0 : Sch := ⟨[1, 1], 1, 3, 2⟩
theorem s0ok : s0.Ok := by constructor <;> decide
abbrev num1 (i : Nat) : ByteArray := BA [UInt8.ofNat (48 + i)]
abbrev src0 : List UInt8 := [116, 97, 98, 108, 101, 32, 115, 117, 109, 109, 105, 110, 103, 32, 49, 32, 50, 32, 105, 110, 116, 32, 105, 110, 116, 10, 105, 110, 115, 101, 114, 116, 32, 49, 32, 53, 32, 124, 32, 50, 32, 49, 10, 105, 110, 115, 101, 114, 116, 32, 49, 32, 55, 10, 99, 114, 97, 115, 104, 32, 48, 10, 116, 97, 98, 108, 101, 32, 115, 117, 109, 109, 105, 110, 103, 32, 49, 32, 50, 32, 105, 110, 116, 32, 105, 110, 116, 10, 103, 101, 116, 32, 102, 105, 110, 97, 108]
abbrev ws0 : List (List ByteArray) := [[tableB, modeW 3, num1 1, num1 2, typeW 1, typeW 1], [insertB, num1 1, num1 5, bar, num1 2, num1 1], [insertB, num1 1, num1 7], [crashB, num1 0], [tableB, modeW 3, num1 1, num1 2, typeW 1, typeW 1], [getB, finalB]]
theorem lines0 : (linesL src0).map (fun l => (wds l).map BA) = ws0 := by decide
theorem marks0 : ∀ l ∈ linesL src0, NoMark (wds l) := by unfold NoMark; decide
theorem lens0 : ∀ l ∈ linesL src0, l.length ≤ 1000000 := by decide
theorem len0 : (linesL src0).length = 6 := by decide
abbrev V (n : Int) : Val := (n, emp)
abbrev rows1 : List Row := [[V 1, V 5], [V 2, V 1]]
abbrev rows2 : List Row := [[V 1, V 7]]
theorem rowOk2 (s : Sch) (ht : s.types = [1, 1]) (a b : Int) (ha : I64 a) (hb : I64 b) : RowOk s [V a, V b] := by
 refine ⟨by rw [ht]; rfl, fun i h h' => ?_⟩
 have hi : i < 2 := h'
 match i, hi with
 | 0, _ => simp only [ht]; exact ⟨ha, .inl ⟨.inl rfl, rfl⟩⟩
 | 1, _ => simp only [ht]; exact ⟨hb, .inl ⟨.inl rfl, rfl⟩⟩
theorem sort1 : sortS s0 rows1 = rows1 := by decide
theorem sort2 : sortS s0 rows2 = rows2 := by decide
theorem told0 : told s0 true [rows1, rows2] = [[V 1, V 12], [V 2, V 1]] := by decide +kernel
abbrev lgN (s : Sch) (n : Nat) : List Int := recHead s (idsTo 0) 0 ++ adds n
def GT (s : Sch) (y n : Nat) (ps : List (List Row)) (k : Nat) (O T : Nat → Prop) (W : World) : Prop :=
 ∃ St, Tabl s St (lgN s n) k ∧ St.ids = idsTo n ∧ St.next = n ∧ St.parts = ps ∧ StTab y St O T W
def GD (s : Sch) (y n : Nat) (ps : List (List Row)) (k : Nat) (O T : Nat → Prop) (W : World) : Prop :=
 ∃ D, Holds D s (lgN s n) ((idsTo n).zip ps) (idsTo n) ∧ Room D k 4000 ∧ StDisk y D O T W
def GP (s : Sch) (y : Nat) (ps : List (List Row)) (O T : Nat → Prop) (W : World) : Prop :=
 ∃ St, St.s = s ∧ St.parts = ps ∧ StTab y St O T W
abbrev D00 : Dsk := ⟨1048576, 0, 0, [], [], true⟩
theorem openNew (s : Sch) (hs : s.Ok) (y : Nat) (O T : Nat → Prop) (W : World) (h : StDisk y D00 O T W) (hO : ∀ q, O q → q < W.heap.size) (wk wg : ByteArray) (hk : Says W 1 wk s.keys) (hg : Says W 1 wg s.grain) (A : Option Addr) (c : Nat)
   (hl : rdStr.Sl (fun q => O q ∨ T q) W A c (tableB :: modeW s.mode :: wk :: wg :: s.types.map typeW)) :
   Calls Tryz.prog 47 #[BX y, .slice A (s.types.length + 4) c] W fun e W' => e = .returned (.string ⟨#[111, 107]⟩) ∧ ∃ T', GT s y 0 [] 1 O T' W' ∧ Keep T W W' ∧ ∀ q, T' q → T q ∨ W.heap.size ≤ q := by
 have hrl := recHead_len s hs (idsTo 0) (by simp [idsTo]) (fun n hn => by simp [idsTo] at hn) 0 (by decide)
 have h0 := holds0 D00 rfl rfl s (recHead s (idsTo 0) 0)
 refine (lineOpen y D00 O T W h hO s hs wk wg hk hg A c hl 0 (by decide) ?_ [] rfl (fun k hk => absurd hk (Nat.not_lt_zero _)) (by decide) (by decide) rfl rfl ?_ (by omega) ?_).mono ?_
 · intro F dg mg A' c' W' hd hA hF
   refine (load0C F dg mg D00 W' hd A' c' s rfl hF).mono ?_
   rintro e w' ⟨rfl, hE⟩
   exact ⟨A', c', none, 0, rfl, Rd.Sl.ext hA hE, Rd.Sl.nil0 _ _ _, hE⟩
 · show 0 + _ ≤ 1048576
   omega
 · intro nm hnm
   exact h0.only nm hnm
 · rintro e w' ⟨rfl, T', hT, hK, hN⟩
   refine ⟨rfl, T', ⟨_, ?_, rfl, rfl, rfl, hT⟩, hK, hN⟩
   have := tabl_new s hs 1048576 rfl
   have e : lgN s 0 = recHead s (idsTo 0) 0 := by show _ ++ adds 0 = _; simp [adds]
   rw [e]; exact this
theorem insGT (s : Sch) (hs : s.Ok) (y n : Nat) (ps : List (List Row)) (k : Nat) (hn : n < 30) (hk : k < 60) (O T : Nat → Prop) (W : World) (h : GT s y n ps k O T W) (hO : ∀ q, O q → q < W.heap.size) (A : Option Addr) (c : Nat) (l : List ByteArray) (hln : l.length ≤ 10000)
   (hl : rdStr.Sl (fun q => O q ∨ T q) W A c (insertB :: l)) (rows : List Row) (sss : List (List ByteArray)) (hlb : l ++ [bar] = barred sss) (hsl : sss.length = rows.length) (hsay : ∀ k (h1 : k < rows.length) (h2 : k < sss.length), SaysR W s.types rows[k] sss[k] ∧ ∀ x ∈ sss[k], x ≠ bar)
   (hro : PartOk s (sortS s rows)) (hb : (partB s (sortS s rows)).length ≤ 4000) (hlr : ∀ r ∈ rows, RowOk s r) (h1 : 1 ≤ rows.length) (h2 : rows.length < 20) (htot : rows.length + sumL ps ≤ 2000) :
   Calls Tryz.prog 47 #[BX y, .slice A (l.length + 1) c] W fun e W' => e = .returned (.string ⟨#[111, 107]⟩) ∧ ∃ T', GT s y (n + 1) (ps ++ [sortS s rows]) (k + 1) O T' W' ∧ Keep T W W' ∧ ∀ q, T' q → T q ∨ W.heap.size ≤ q := by
 obtain ⟨St, hTb, hids, hnx, hps, hSt⟩ := h
 obtain ⟨li, hli, hlf⟩ := hTb.holds.log_
 have hTb2 := tabl_ins hs hTb (by omega) rows hb li hli (.inr (by omega))
 have hsc := hTb.sch
 have hus := hTb.room.used
 have hq := hTb.room.quota
 have hlm := hTb.room.lim
 have hnm := hTb.room.names
 have hlg := hTb.lgl
 have hnot : (St.next : Int) ∉ St.ids := fun e => by have := hTb.nx _ e; omega
 have hrl : (recAdd St.next).length = 7 := recAdd_len _ (by omega)
 have hfr := hTb.holds.fresh (id := St.next) (by omega) hnot
 have hne := hTb.holds.noEmp
 have hilen : St.ids.length = n := by rw [hids]; exact idsTo_len n
 have hplen : St.parts.length = n := by rw [← hTb.len]; exact hilen
 subst hsc
 refine (lineInsert y St O T W hSt hO hs A c l hln hl rows sss hlb hsl hsay hro hlr h1 h2 (by omega) (by omega) (by omega) (by rw [hps]; exact htot) (fun m hm => (hTb.nx m hm).2) (by omega) (by omega) hfr hne.1 li hli _ _ hlf ?_ ?_).mono ?_
 · rw [hq, hrl]
   have : k * 4000 ≤ 60 * 4000 := Nat.mul_le_mul_right _ (by omega)
   omega
 · rw [hrl]; omega
 · rintro e w' ⟨rfl, T', hT, hK, hN⟩
   refine ⟨rfl, T', ⟨_, ?_, ?_, ?_, ?_, hT⟩, hK, hN⟩
   · have e1 : lgN St.s (n + 1) = lgN St.s n ++ recAdd St.next := by
       show _ ++ adds (n + 1) = (_ ++ adds n) ++ _
       rw [adds_succ, hnx, List.append_assoc]
     rw [e1]; exact hTb2
   · show St.ids ++ [(St.next : Int)] = _
     rw [hids, hnx, idsTo_succ]
   · show St.next + 1 = n + 1
     rw [hnx]
   · show St.parts ++ [sortS St.s rows] = _
     rw [hps]
theorem crashGT (s : Sch) (y n : Nat) (ps : List (List Row)) (k : Nat) (O T : Nat → Prop) (W : World) (h : GT s y n ps k O T W) (hO : ∀ q, O q → q < W.heap.size) (A : Option Addr) (c : Nat) (l : List ByteArray) (hln : l.length ≤ 1000)
   (hl : rdStr.Sl (fun q => O q ∨ T q) W A c (crashB :: l)) (ch : Nat) (hch : ch ≤ 999999) (ts : List Int) (htv : ∀ t ∈ ts, 0 ≤ t ∧ t ≤ 999999) (hsy : SaysL W l ((ch : Int) :: ts)) :
   Calls Tryz.prog 47 #[BX y, .slice A (l.length + 1) c] W fun e W' => e = .returned (.string ⟨#[111, 107]⟩) ∧ ∃ T', GD s y n ps k O T' W' ∧ Keep T W W' ∧ ∀ q, T' q → T q ∨ W.heap.size ≤ q := by
 obtain ⟨St, hTb, hids, hnx, hps, hSt⟩ := h
 have hsafe := holds_safe hTb.holds (fun m hm => by
   obtain ⟨j, hj, e⟩ := List.getElem_of_mem hm
   have hj2 : j < St.parts.length := by rw [← hTb.len]; exact hj
   refine ⟨(St.ids[j], St.parts[j]), ?_, e⟩
   rw [← List.getElem_zip (h := by rw [List.length_zip]; omega)]
   exact List.getElem_mem _)
 refine (lineCrash y St O T W hSt hO A c l hln hl ch hch ts htv hsy hTb.clean hsafe).mono ?_
 rintro e w' ⟨rfl, T', hT, hK, hN⟩
 refine ⟨rfl, T', ⟨crD St.D, ?_, room_cr hTb.room, hT⟩, hK, hN⟩
 have := holds_cr hTb.holds
 rw [hids, hps] at this
 exact this
end K106
namespace K107
open Go Go.RowKit
open KB KB2 P2 K1 K2 K3 K17 P5 P6 P8 P9 K25 K35 K38 K42 K54 K55 K56 K57 K58 K31 K65 K70 K71 K72 K75 K77 K81 K87 K88 K89 K91 K92 K93 K94 K95 K97 K5 P4 P10 K79 K98 K99 K101 K102 K103 K104 K105 K106
theorem idsTo_rng {n : Nat} (h : n < 100) : ∀ m ∈ idsTo n, 0 ≤ m ∧ m < 128 := fun m hm => by have := idsTo_mem.1 hm; omega
theorem openOld (s : Sch) (hs : s.Ok) (y n : Nat) (hn : n ≤ 40) (ps : List (List Row)) (hpl : ps.length = n) (hps : ∀ x ∈ ps, PartOk s x) (k : Nat) (hk : k < 100) (O T : Nat → Prop) (W : World) (h : GD s y n ps k O T W) (hO : ∀ q, O q → q < W.heap.size) (wk wg : ByteArray) (hkk : Says W 1 wk s.keys) (hg : Says W 1 wg s.grain) (A : Option Addr) (c : Nat)
   (hl : rdStr.Sl (fun q => O q ∨ T q) W A c (tableB :: modeW s.mode :: wk :: wg :: s.types.map typeW)) :
   Calls Tryz.prog 47 #[BX y, .slice A (s.types.length + 4) c] W fun e W' => e = .returned (.string ⟨#[111, 107]⟩) ∧ ∃ T', GP s y ps O T' W' ∧ Keep T W W' ∧ ∀ q, T' q → T q ∨ W.heap.size ≤ q := by
 obtain ⟨D, hH, hR, hS⟩ := h
 have hrl := recHead_len s hs (idsTo n) (by rw [idsTo_len]; omega) (idsTo_rng (by omega)) n (by omega)
 have hr0 := recHead_len s hs (idsTo 0) (by simp [idsTo]) (fun n hn => by simp [idsTo] at hn) 0 (by decide)
 have hal : (adds n).length = 7 * n := by
   clear hl hkk hg hS hR hH hpl hrl hk
   induction n with
   | zero => rfl
   | succ n ih => rw [adds_succ, List.length_append, ih (by omega), recAdd_len n (by omega)]; omega
 obtain ⟨li, hli, hlf⟩ := hH.log_
 have hus := hR.used
 have hq := hR.quota
 have hlm := hR.lim
 have hnm := hR.names
 have hne := hH.noEmp
 have hsv := holds_saved hH (recHead s (idsTo n) n)
 refine (lineOpen y D O T W hS hO s hs wk wg hkk hg A c hl n hn ?_ ps hpl ?_ (by omega) (by omega) hne.2 hne.1 ?_ (by omega) (fun nm hnm => hsv.only nm hnm)).mono ?_
 · intro F dg mg A' c' W' hd hA hF
   exact load1C F dg mg D W' hd A' c' s hs (Rd.Sl.narrow Nat.one_pos hA (fun k _ e => .inl e)) n hn li hli _ _ hlf rfl (by show (recHead s (idsTo 0) 0 ++ adds n).length ≤ _; rw [List.length_append]; omega) hF
 · intro j hj
   have hjn : j < (idsTo n).length := by rw [idsTo_len]; omega
   have hm : (((j : Nat) : Int), ps[j]) ∈ (idsTo n).zip ps := by
     have e : (idsTo n)[j] = ((j : Nat) : Int) := by simp [idsTo]
     rw [← e, ← List.getElem_zip (h := by rw [List.length_zip]; omega)]
     exact List.getElem_mem _
   obtain ⟨i, hi, hf⟩ := hH.part _ hm
   exact ⟨i, _, by simpa using hi, hf, hps _ (List.getElem_mem hj)⟩
 · rw [hq]
   have : k * 4000 ≤ 100 * 4000 := Nat.mul_le_mul_right _ (by omega)
   omega
 · rintro e w' ⟨rfl, T', hT, hK, hN⟩
   exact ⟨rfl, T', ⟨_, rfl, rfl, hT⟩, hK, hN⟩
def SS (y : Nat) (k : Nat) (O T : Nat → Prop) (W : World) : Prop :=
 match k with
 | 0 => StDisk y D00 O T W
 | 1 => GT s0 y 0 [] 1 O T W
 | 2 => GT s0 y 1 [rows1] 2 O T W
 | 3 => GT s0 y 2 [rows1, rows2] 3 O T W
 | 4 => GD s0 y 2 [rows1, rows2] 3 O T W
 | _ => GP s0 y [rows1, rows2] O T W
theorem gt_keep {s : Sch} {y n : Nat} {ps : List (List Row)} {k : Nat} {O T : Nat → Prop} {W W' : World} (h : GT s y n ps k O T W) (K : Keep O W W') : GT s y n ps k O T W' := by
 obtain ⟨St, a, b, c, d, e⟩ := h
 exact ⟨St, a, b, c, d, stTab_keep e K⟩
theorem gt_narrow {s : Sch} {y n : Nat} {ps : List (List Row)} {k : Nat} {O O' T : Nat → Prop} {W : World} (h : GT s y n ps k O T W) (hO : ∀ q, q < W.heap.size → O' q → O q) : GT s y n ps k O' T W := by
 obtain ⟨St, a, b, c, d, e⟩ := h
 exact ⟨St, a, b, c, d, stTab_narrow e hO⟩
theorem gt_own {s : Sch} {y n : Nat} {ps : List (List Row)} {k : Nat} {O T : Nat → Prop} {W : World} (h : GT s y n ps k O T W) : ∀ q, T q → q < W.heap.size ∧ ¬ O q := by
 obtain ⟨St, a, b, c, d, e⟩ := h
 exact stTab_own e
theorem partOk2 (s : Sch) (hs : s.Ok) (ht : s.types = [1, 1]) (l : List Row) (h1 : 1 ≤ l.length) (h2 : l.length ≤ 30) (hr : ∀ r ∈ l, RowOk s r) (ho : InOrder (cmpS s) l) : PartOk s l ∧ (partB s l).length ≤ 4000 := by
 have hp := partB_length s hs l (by omega)
 have ht2 : s.types.length = 2 := by rw [ht]; rfl
 rw [ht2] at hp
 exact ⟨⟨hs, fun t h => by rw [ht] at h; simp at h; exact .inl h, h1, by omega, hr, ho, by omega⟩, by omega⟩
theorem p1ok : PartOk s0 rows1 ∧ (partB s0 rows1).length ≤ 4000 := partOk2 s0 s0ok rfl rows1 (by decide) (by decide) (fun r hr => by
 simp only [List.mem_cons, List.not_mem_nil, or_false] at hr
 rcases hr with rfl | rfl
 · exact rowOk2 s0 rfl 1 5 (by unfold I64; omega) (by unfold I64; omega)
 · exact rowOk2 s0 rfl 2 1 (by unfold I64; omega) (by unfold I64; omega)) ((inOrder_srt (fun r hr => by
 simp only [List.mem_cons, List.not_mem_nil, or_false] at hr
 rcases hr with rfl | rfl
 · exact rowOk2 s0 rfl 1 5 (by unfold I64; omega) (by unfold I64; omega)
 · exact rowOk2 s0 rfl 2 1 (by unfold I64; omega) (by unfold I64; omega))).2 (by unfold Srt; decide))
theorem p2ok : PartOk s0 rows2 ∧ (partB s0 rows2).length ≤ 4000 := partOk2 s0 s0ok rfl rows2 (by decide) (by decide) (fun r hr => by
 simp only [List.mem_cons, List.not_mem_nil, or_false] at hr
 subst hr
 exact rowOk2 s0 rfl 1 7 (by unfold I64; omega) (by unfold I64; omega)) ((inOrder_srt (fun r hr => by
 simp only [List.mem_cons, List.not_mem_nil, or_false] at hr
 subst hr
 exact rowOk2 s0 rfl 1 7 (by unfold I64; omega) (by unfold I64; omega))).2 (by unfold Srt; decide))
abbrev okL : List UInt8 := [111, 107]
abbrev lastL : List UInt8 := [50, 10, 49, 32, 49, 50, 10, 50, 32, 49]
abbrev outs0 : List (List UInt8) := [okL, okL, okL, okL, okL, lastL]
theorem says12 (w : World) : Says w 1 (BA [49, 50]) 12 := by
 have hd : Lib.decDigits 12 = [49, 50] := by rw [K57.dec2 12 (by decide) (by decide)]; rfl
 have hp : Lib.parseIntB 64 (BA [49, 50]).data.toList = .ok (12 : Int) := by decide
 refine ⟨⟨by omega, by omega⟩, by decide, .inl ⟨rfl, fun W hW => ?_, fun W hW => ?_⟩⟩
 · refine (Tryz.strconv_ParseInt_10_at64_ok _ (by show 2 ≤ _; omega) _ hp W).mono ?_
   rintro e w' ⟨rfl, rfl | ⟨t, rfl⟩⟩
   · exact ⟨rfl, Ext.refl _⟩
   · exact ⟨rfl, bytesWorld_ext _ _ _⟩
 · refine (Tryz.strconv_FormatInt_10_small 12 (by decide) W).mono ?_
   rintro e w' ⟨rfl, rfl⟩
   exact ⟨by rw [hd], Ext.refl _⟩
theorem saysR2 (w : World) (a b : Int) (sa sb : ByteArray) (ha : Says w 1 sa a) (hb : Says w 1 sb b) : SaysR w [1, 1] [V a, V b] [sa, sb] := by
 refine ⟨rfl, rfl, fun k h h1 h2 => ?_⟩
 have hk : k < 2 := h
 match k, hk with
 | 0, _ => exact ⟨rfl, ha⟩
 | 1, _ => exact ⟨rfl, hb⟩
theorem line0 (y : Nat) (O T : Nat → Prop) (W : World) (h : StDisk y D00 O T W) (hO : ∀ q, O q → q < W.heap.size) (A : Option Addr) (c : Nat) (hl : rdStr.Sl (fun q => O q ∨ T q) W A c (tableB :: modeW s0.mode :: num1 1 :: num1 2 :: s0.types.map typeW)) :
   Calls Tryz.prog 47 #[BX y, .slice A (s0.types.length + 4) c] W fun e W' => e = .returned (.string (⟨#[111, 107]⟩)) ∧ ∃ T', GT s0 y 0 [] 1 O T' W' ∧ Keep T W W' ∧ ∀ q, T' q → T q ∨ W.heap.size ≤ q := by
 exact openNew s0 s0ok y O T W h hO (num1 1) (num1 2) (says_small 1 (by decide) W) (says_small 2 (by decide) W) A c hl
theorem line1 (y : Nat) (O T : Nat → Prop) (W : World) (h : GT s0 y 0 [] 1 O T W) (hO : ∀ q, O q → q < W.heap.size) (A : Option Addr) (c : Nat) (hl : rdStr.Sl (fun q => O q ∨ T q) W A c ([insertB, num1 1, num1 5, bar, num1 2, num1 1])) :
   Calls Tryz.prog 47 #[BX y, .slice A (6) c] W fun e W' => e = .returned (.string (⟨#[111, 107]⟩)) ∧ ∃ T', GT s0 y 1 [rows1] 2 O T' W' ∧ Keep T W W' ∧ ∀ q, T' q → T q ∨ W.heap.size ≤ q := by
 refine (insGT s0 s0ok y 0 [] 1 (by decide) (by decide) O T W h hO A c [num1 1, num1 5, bar, num1 2, num1 1] (by decide) hl rows1 [[num1 1, num1 5], [num1 2, num1 1]] rfl rfl ?_ (by rw [sort1]; exact p1ok.1) (by rw [sort1]; exact p1ok.2) p1ok.1.rows (by decide) (by decide) (by decide)).mono ?_
 · intro j h1 h2
   have hj : j < 2 := h1
   match j, hj with
   | 0, _ => exact ⟨saysR2 W 1 5 _ _ (says_small 1 (by decide) W) (says_small 5 (by decide) W), show ∀ x ∈ [num1 1, num1 5], x ≠ bar from by decide⟩
   | 1, _ => exact ⟨saysR2 W 2 1 _ _ (says_small 2 (by decide) W) (says_small 1 (by decide) W), show ∀ x ∈ [num1 2, num1 1], x ≠ bar from by decide⟩
 · rintro e w' ⟨rfl, T', hT, hK, hN⟩
   rw [sort1] at hT
   exact ⟨rfl, T', hT, hK, hN⟩
theorem line2 (y : Nat) (O T : Nat → Prop) (W : World) (h : GT s0 y 1 [rows1] 2 O T W) (hO : ∀ q, O q → q < W.heap.size) (A : Option Addr) (c : Nat) (hl : rdStr.Sl (fun q => O q ∨ T q) W A c ([insertB, num1 1, num1 7])) :
   Calls Tryz.prog 47 #[BX y, .slice A (3) c] W fun e W' => e = .returned (.string (⟨#[111, 107]⟩)) ∧ ∃ T', GT s0 y 2 [rows1, rows2] 3 O T' W' ∧ Keep T W W' ∧ ∀ q, T' q → T q ∨ W.heap.size ≤ q := by
 refine (insGT s0 s0ok y 1 [rows1] 2 (by decide) (by decide) O T W h hO A c [num1 1, num1 7] (by decide) hl rows2 [[num1 1, num1 7]] rfl rfl ?_ (by rw [sort2]; exact p2ok.1) (by rw [sort2]; exact p2ok.2) p2ok.1.rows (by decide) (by decide) (by decide)).mono ?_
 · intro j h1 h2
   have hj : j < 1 := h1
   match j, hj with
   | 0, _ => exact ⟨saysR2 W 1 7 _ _ (says_small 1 (by decide) W) (says_small 7 (by decide) W), show ∀ x ∈ [num1 1, num1 7], x ≠ bar from by decide⟩
 · rintro e w' ⟨rfl, T', hT, hK, hN⟩
   rw [sort2] at hT
   exact ⟨rfl, T', hT, hK, hN⟩
theorem line3 (y : Nat) (O T : Nat → Prop) (W : World) (h : GT s0 y 2 [rows1, rows2] 3 O T W) (hO : ∀ q, O q → q < W.heap.size) (A : Option Addr) (c : Nat) (hl : rdStr.Sl (fun q => O q ∨ T q) W A c ([crashB, num1 0])) :
   Calls Tryz.prog 47 #[BX y, .slice A (2) c] W fun e W' => e = .returned (.string (⟨#[111, 107]⟩)) ∧ ∃ T', GD s0 y 2 [rows1, rows2] 3 O T' W' ∧ Keep T W W' ∧ ∀ q, T' q → T q ∨ W.heap.size ≤ q := by
 exact crashGT s0 y 2 [rows1, rows2] 3 O T W h hO A c [num1 0] (by decide) hl 0 (by decide) [] (fun t ht => by cases ht) ⟨rfl, fun j h1 h2 => by
   have hj : j < 1 := h1
   match j, hj with
   | 0, _ => exact ⟨says_small 0 (by decide) W, show (0 : Int) ≤ 0 from by decide, show (0 : Int) ≤ 999999 from by decide⟩⟩
theorem line4 (y : Nat) (O T : Nat → Prop) (W : World) (h : GD s0 y 2 [rows1, rows2] 3 O T W) (hO : ∀ q, O q → q < W.heap.size) (A : Option Addr) (c : Nat) (hl : rdStr.Sl (fun q => O q ∨ T q) W A c (tableB :: modeW s0.mode :: num1 1 :: num1 2 :: s0.types.map typeW)) :
   Calls Tryz.prog 47 #[BX y, .slice A (s0.types.length + 4) c] W fun e W' => e = .returned (.string (⟨#[111, 107]⟩)) ∧ ∃ T', GP s0 y [rows1, rows2] O T' W' ∧ Keep T W W' ∧ ∀ q, T' q → T q ∨ W.heap.size ≤ q := by
 exact openOld s0 s0ok y 2 (by decide) [rows1, rows2] rfl (fun x hx => by
   simp only [List.mem_cons, List.not_mem_nil, or_false] at hx
   rcases hx with rfl | rfl
   · exact p1ok.1
   · exact p2ok.1) 3 (by decide) O T W h hO (num1 1) (num1 2) (says_small 1 (by decide) W) (says_small 2 (by decide) W) A c hl
theorem line5 (y : Nat) (O T : Nat → Prop) (W : World) (h : GP s0 y [rows1, rows2] O T W) (hO : ∀ q, O q → q < W.heap.size) (A : Option Addr) (c : Nat) (hl : rdStr.Sl (fun q => O q ∨ T q) W A c ([getB, finalB])) :
   Calls Tryz.prog 47 #[BX y, .slice A (2) c] W fun e W' => e = .returned (.string (BA lastL)) ∧ ∃ T', GP s0 y [rows1, rows2] O T' W' ∧ Keep T W W' ∧ ∀ q, T' q → T q ∨ W.heap.size ≤ q := by
 have h0 := h
 obtain ⟨St, hs, hps, hSt⟩ := h
 have hgoal : joinL (tells [[V 1, V 12], [V 2, V 1]] [[num1 1, BA [49, 50]], [num1 2, num1 1]]) ⟨#[10]⟩ = lastL := by
   have : Lib.decDigits 2 = [50] := by rw [K57.dec1 2 (by decide)]; rfl
   show joinL (⟨(Lib.decDigits 2).toArray⟩ :: _) _ = _
   rw [this]
   decide
 refine (lineGet y St O T W hSt hO (by rw [hs]; exact s0ok) A c hl (by rw [hps]; decide) (by rw [hps]; decide) ?_ [[V 1, V 12], [V 2, V 1]] (by rw [hs, hps]; exact told0.symm) (by decide) [[num1 1, BA [49, 50]], [num1 2, num1 1]] rfl ?_ (by rw [hgoal]; decide)).mono ?_
 · rw [hs, hps]
   intro x hx
   simp only [List.mem_cons, List.not_mem_nil, or_false] at hx
   rcases hx with rfl | rfl
   · exact ⟨(inOrder_srt p1ok.1.rows).1 p1ok.1.ord, p1ok.1.rows⟩
   · exact ⟨(inOrder_srt p2ok.1.rows).1 p2ok.1.ord, p2ok.1.rows⟩
 · rw [hs]
   intro j h1 h2
   have hj : j < 2 := h1
   match j, hj with
   | 0, _ => exact ⟨saysR2 W 1 12 _ _ (says_small 1 (by decide) W) (says12 W), show (joinL [num1 1, BA [49, 50]] ⟨#[32]⟩).length ≤ 1000000000 from by decide⟩
   | 1, _ => exact ⟨saysR2 W 2 1 _ _ (says_small 2 (by decide) W) (says_small 1 (by decide) W), show (joinL [num1 2, num1 1] ⟨#[32]⟩).length ≤ 1000000000 from by decide⟩
 · rintro e w' ⟨rfl, T', hT, hK, hN⟩
   refine ⟨by rw [hgoal], T', ⟨St, hs, hps, hT⟩, hK, hN⟩
theorem deskSS (y : Nat) : Desk y outs0 ws0 (SS y) := by
 refine ⟨?_, ?_, ?_, ?_⟩
 · intro k O T W W' h K
   match k, h with
   | 0, h => exact stDisk_keep h K
   | 1, h => exact gt_keep (s := s0) h K
   | 2, h => exact gt_keep (s := s0) h K
   | 3, h => exact gt_keep (s := s0) h K
   | 4, h => obtain ⟨D, a, b, c⟩ := h; exact ⟨D, a, b, stDisk_keep c K⟩
   | n + 5, h => obtain ⟨St, a, b, c⟩ := h; exact ⟨St, a, b, stTab_keep c K⟩
 · intro k O O' T W h hO
   match k, h with
   | 0, h => exact stDisk_narrow h hO
   | 1, h => exact gt_narrow (s := s0) h hO
   | 2, h => exact gt_narrow (s := s0) h hO
   | 3, h => exact gt_narrow (s := s0) h hO
   | 4, h => obtain ⟨D, a, b, c⟩ := h; exact ⟨D, a, b, stDisk_narrow c hO⟩
   | n + 5, h => obtain ⟨St, a, b, c⟩ := h; exact ⟨St, a, b, stTab_narrow c hO⟩
 · intro k O T W h
   match k, h with
   | 0, h => exact stDisk_own h
   | 1, h => exact gt_own (s := s0) h
   | 2, h => exact gt_own (s := s0) h
   | 3, h => exact gt_own (s := s0) h
   | 4, h => obtain ⟨D, a, b, c⟩ := h; exact stDisk_own c
   | n + 5, h => obtain ⟨St, a, b, c⟩ := h; exact stTab_own c
 · intro k hk hk2 O T W A c h hO hl
   have hk6 : k < 6 := hk
   obtain rfl | rfl | rfl | rfl | rfl | rfl : k = 0 ∨ k = 1 ∨ k = 2 ∨ k = 3 ∨ k = 4 ∨ k = 5 := by omega
   · exact line0 y O T W h hO A c hl
   · exact line1 y O T W h hO A c hl
   · exact line2 y O T W h hO A c hl
   · exact line3 y O T W h hO A c hl
   · exact line4 y O T W h hO A c hl
   · exact line5 y O T W h hO A c hl
end K107
end Go.Proofs.YtbjeejimedhniaaGreatDoor
