/- Contracts of the program's functions, as the walks of the law use them. -/
import Derived.Test.YtbjeejimedhniaaGreatDoorC20
import Derived.Test.YtbjeejimedhniaaGreatDoorC19
import Derived.Test.YtbjeejimedhniaaGreatDoorC18
namespace Go.Proofs.YtbjeejimedhniaaGreatDoor
namespace K72
open Go Go.RowKit
open KB KB2 K1 K2 K3 K5 K7 P2 K35 K46 K69 K70 K71
open K19 (PartAt PartAt.keep PartAt.ext)
set_option linter.unusedVariables false
set_option linter.unusedSimpArgs false
set_option maxHeartbeats 2000000
set_option maxRecDepth 100000
/-- A table: its schema, the numbers of its parts, the next number, their rows, its disk. -/
structure StM where
  s : Sch
  ids : List Int
  next : Nat
  parts : List (List Row)
  D : Dsk
/-- The blocks in which no data of a table may lie. -/
abbrev SF (F : Nat → Prop) (tg dg mg : Nat) : Nat → Prop := DF (fun k => F k ∨ k = tg) dg mg
/-- The blocks that a table turns. -/
def SB (tg dg mg : Nat) (pv : Value) : Nat → Prop := fun k => k = tg ∨ k = dg ∨ k = mg ∨ pv.ownBlock = some k
abbrev stCells (dg : Nat) (A : Option Addr) (c : Nat) (s : Sch) (Ai : Option Addr) (ni ci : Nat) (next : Nat) (pv : Value) : Array Value :=
  #[.pointer (some ⟨dg, 0, none⟩), .slice A s.types.length c, .int .i64 s.keys, .int .i64 s.mode, .int .i64 s.grain, .slice Ai ni ci, .int .i64 next, pv, .bool false]
structure StoreAt (F : Nat → Prop) (w : World) (tg dg mg : Nat) (pv : Value) (S : StM) : Prop where
  ft : ¬ F tg
  td : ¬ tg = dg
  tm : ¬ tg = mg
  disk : DiskAt (Fv (fun k => F k ∨ k = tg) pv) w dg mg S.D
  parts : (rdPart S.s).Own (SF F tg dg mg) 0 88 w pv S.parts
  far : ∀ k, pv.ownBlock = some k → ¬ SF F tg dg mg k
  at_ : ∃ A c Ai ci, w.heap[tg]? = some (.cells (stCells dg A c S.s Ai S.ids.length ci S.next pv) 85 (0, 0)) ∧ SchAt (Fv (SF F tg dg mg) pv) w A c S.s ∧ (rdInt .i64).Sl (Fv (SF F tg dg mg) pv) w Ai ci S.ids
theorem elPart : El Tryz.prog 83 88 1 8 := El.mk (z := .pointer none) Tryz.underlying83 (by kernel_rfl) rfl (by decide)
theorem StoreAt.ext {F : Nat → Prop} {w w' : World} {tg dg mg : Nat} {pv : Value} {S : StM} (h : StoreAt F w tg dg mg pv S) (k : Ext w w') : StoreAt F w' tg dg mg pv S := by
  obtain ⟨ft, td, tm, hd, hp, hf, A, c, Ai, ci, hb, h1, h2⟩ := h
  exact ⟨ft, td, tm, hd.ext k, hp.ext k, hf, A, c, Ai, ci, k.blk hb, Rd.Sl.ext h1 k, h2.ext k⟩
theorem StoreAt.keep {F G : Nat → Prop} {w w' : World} {tg dg mg : Nat} {pv : Value} {S : StM} (h : StoreAt F w tg dg mg pv S) (k : Keep G w w') (hG : ∀ i, G i → F i) (hp : ∀ i, pv.ownBlock = some i → ¬ G i) : StoreAt F w' tg dg mg pv S := by
  obtain ⟨ft, td, tm, hd, hpp, hf, A, c, Ai, ci, hb, h1, h2⟩ := h
  have hge := hpp.ge
  have k1 : Keep (Fv (SF F tg dg mg) pv) w w' := k.mono (fun i _ q => .inl (.inl (.inl (hG i q))))
  exact ⟨ft, td, tm, hd.keep (k.mono (fun i _ q => .inl (.inl (hG i q)))), hpp.keep2 k1 (fun g hg => k.block g (hge g hg).2 (hp g hg)), hf, A, c, Ai, ci, k.blk (fun q => ft (hG tg q)) hb, Rd.Sl.keep h1 k1, h2.keep k1⟩
/-- Its parts, read. -/
theorem StoreAt.sl {F : Nat → Prop} {w : World} {tg dg mg : Nat} {pv : Value} {S : StM} (h : StoreAt F w tg dg mg pv S) : ∃ A c, pv = .slice A S.parts.length c ∧ (rdPart S.s).Sl (SF F tg dg mg) w A c S.parts := by
  obtain ⟨xs, ho, hC⟩ := h.parts
  rcases ho.2 with ⟨he, hn⟩ | ⟨g, cap, cur, he, hb, hg, hnc, hcm, hcs, htake⟩
  · have : S.parts = [] := List.eq_nil_of_length_eq_zero hn
    rw [this] at hn ⊢
    exact ⟨none, 0, by rw [he]; rfl, Rd.Sl.nil0 _ _ _⟩
  · have hfar := h.far
    rw [he] at hfar hC ho ⊢
    refine ⟨some ⟨g, 0, none⟩, cap, rfl, hnc, hcm, (fun h => by cases h), fun k x hk => ⟨g, 0, rfl, hfar g rfl, _, (rdPart S.s).narrow (fun k _ hk => .inl hk) (hC k x hk), fun j u hj => ?_⟩⟩
    have hj' : j < (rdPart S.s).sz := by have := (List.getElem?_eq_some_iff.1 hj).1; simp at this; omega
    have := ho.cells (g := g) rfl (k * (rdPart S.s).sz + j) u (by rw [List.getElem?_take, if_pos hj', List.getElem?_drop] at hj; exact hj)
    rw [Addr.add_lit] at this
    rw [← this]; congr 2; omega
theorem SFlt {F : Nat → Prop} {w : World} {tg dg mg : Nat} {pv : Value} {S : StM} (h : StoreAt F w tg dg mg pv S) (hF : ∀ k, F k → k < w.heap.size) : ∀ k, SF F tg dg mg k → k < w.heap.size := by
  obtain ⟨A, c, Ai, ci, hb, _⟩ := h.at_
  have hd := h.disk.lt
  intro k q
  rcases q with (q | q) | q | q
  · exact hF k q
  · rw [q]; exact blk_lt hb
  · rw [q]; exact hd.1
  · rw [q]; exact hd.2
theorem sizesC (F : Nat → Prop) (tg dg mg : Nat) (pv : Value) (S : StM) (w : World) (h : StoreAt F w tg dg mg pv S) (hn : S.parts.length ≤ 1000) (hF : ∀ k, F k → k < w.heap.size) (G : Nat → Prop) (hG : ∀ k, G k → k < w.heap.size) :
    Calls Tryz.prog 27 #[PX tg] w fun e w' => ∃ A c, e = .returned (.slice A S.parts.length c) ∧ (rdInt .i64).Sl G w' A c (S.parts.map fun l => (l.length : Int)) ∧ Ext w w' := by
  obtain ⟨A, c, hpv, hsl⟩ := h.sl
  obtain ⟨A1, c1, Ai, ci, hb, _, _⟩ := h.at_
  rw [hpv] at hb
  have p7 := blk_cell hb 7
  go_enter Tryz.func27, Tryz.ntmps27
  go_wp2_with (fail)
  go_loopw [3, 11] (fun v i wr => ∃ k : Nat, i = .int .i64 k ∧ k ≤ S.parts.length ∧ (rdInt .i64).Own G w.heap.size 3 wr v ((S.parts.take k).map fun l => (l.length : Int)) ∧ Ext w wr) (fun _ i _ => S.parts.length - (intOf i).toNat)
  case atStart => exact ⟨0, by go_num, Nat.zero_le _, Rd.Own.nil _ _ _ _ _, Ext.refl _⟩
  case round =>
    obtain ⟨k, rfl, hkl, hown, hE⟩ := hrel
    by_cases hlt : k < S.parts.length
    · obtain ⟨b, o, g, rfl, hc, hpg⟩ := part_get (hsl.ext hE) hlt
      have HT : As ((S.parts.take (k + 1)).map (fun l => (l.length : Int)) = (S.parts.take k).map (fun l => (l.length : Int)) ++ [(S.parts[k].length : Int)]) := ⟨by rw [take_snoc S.parts hlt, List.map_append]; rfl⟩
      have HTL : As (((S.parts.take k).map (fun l => (l.length : Int))).length ≤ 1000) := ⟨by rw [List.length_map, List.length_take]; omega⟩
      clear h hsl
      go_wp2_with (first | (go_at_call 58; refine (K20.rowsPC _ g S.s S.parts[k] wr hpg).mono ?_; rintro e w2 ⟨rfl, rfl⟩) | (at_builtin; (refine wpList_push rfl (.tmp 15) (.tmp 18) 25 rfl (rdInt .i64) elInt rfl (hown.ext ((Ext.refl wr).alloc _)) rfl (heap_alloc_new wr _) (y := (S.parts[k].length : Int)) rfl (by have := HTL.out; omega) (by have := HTL.out; unfold maxLen; omega) (by have := hE.size; simp; omega) (hE.alloc _) ?_); intro v' w3 hown3 hg3 hE3))
      rw [← HT.out] at hown3
      go_roundw
      case rel => exact ⟨k + 1, by go_num, by omega, hown3, hE3⟩
      case measure => simp [intOf] <;> omega
    · obtain rfl : k = S.parts.length := by omega
      rw [List.take_length] at hown
      obtain ⟨A', c', rfl, hs'⟩ := hown.shut hG
      go_wp2
      go_ret
      exact ⟨A', c', by simp, hs', hE⟩
theorem queryC (F : Nat → Prop) (tg dg mg : Nat) (pv : Value) (S : StM) (hs : S.s.Ok) (fin : Bool) (w : World) (h : StoreAt F w tg dg mg pv S) (hn : S.parts.length ≤ 1000) (hN : S.parts.flatten.length ≤ 100000) (ho : ∀ x ∈ S.parts, Srt (cmpS S.s) x ∧ ∀ r ∈ x, RowOk S.s r) (hF : ∀ k, F k → k < w.heap.size) :
    Calls Tryz.prog 21 #[PX tg, q0V fin] w fun e w' => ∃ (A' : Option Addr) (c' : Nat) (n : Int), e = .returned (.tuple #[.agg #[.slice A' (told S.s fin S.parts).length c', .slice none 0 0, .int .i64 n], .int .i64 0]) ∧ rdRow.Sl F w' A' c' (told S.s fin S.parts) ∧ Ext w w' := by
  obtain ⟨x, hx⟩ : ∃ x, w.heap.size = x := ⟨_, rfl⟩
  obtain ⟨Ap, cp, hpv, hsl⟩ := h.sl
  have hlt := SFlt h hF
  obtain ⟨A1, c1, Ai, ci, hb, hA, _⟩ := h.at_
  rw [hpv] at hb
  have hE1 := ((Ext.refl w).alloc (.cells #[.bool false, .bool false, .slice none 0 0, .slice none 0 0, .bool fin, .slice none 0 0, .slice none 0 0] 75)).alloc (.cells #[.slice none 0 0, .slice none 0 0, .int .i64 0] 67)
  have B1 := blk_old (o' := .cells #[.slice none 0 0, .slice none 0 0, .int .i64 0] 67) (blk_new w (.cells #[.bool false, .bool false, .slice none 0 0, .slice none 0 0, .bool fin, .slice none 0 0, .slice none 0 0] 75))
  have B2 := blk_new (w.alloc (.cells #[.bool false, .bool false, .slice none 0 0, .slice none 0 0, .bool fin, .slice none 0 0, .slice none 0 0] 75)) (.cells #[.slice none 0 0, .slice none 0 0, .int .i64 0] 67)
  rw [World.size_alloc] at B2
  have htl := blk_lt hb
  go_enter Tryz.func21, Tryz.ntmps21
  go_wp2_with (fail)
  generalize (w.alloc (.cells #[.bool false, .bool false, .slice none 0 0, .slice none 0 0, .bool fin, .slice none 0 0, .slice none 0 0] 75)).alloc (.cells #[.slice none 0 0, .slice none 0 0, .int .i64 0] 67) = w1 at *
  rw [hx] at B1 B2 htl hlt
  have hb1 := hE1.blk hb
  have hF1 : ∀ k, (F k ∨ k = x + 1) → k < w1.heap.size := fun k q => q.elim (fun q => by have := hF k q; have := hE1.size; omega) (fun q => by have := blk_lt B2; omega)
  have hA1 : SchAt (fun k => F k ∨ k = x + 1) w1 A1 c1 S.s := Rd.Sl.ext (Rd.Sl.narrow Nat.one_pos hA (fun k hk q => q.elim (fun q => .inl (.inl (.inl q))) (fun q => by omega))) hE1
  have hp1 : (rdPart S.s).Sl (fun k => F k ∨ k = x + 1) w1 Ap cp S.parts := Rd.Sl.ext (Rd.Sl.narrow Nat.one_pos hsl (fun k hk q => q.elim (fun q => .inl (.inl q)) (fun q => by omega))) hE1
  have hrun := fun W (hW : Ext w1 W) => runC _ A1 c1 S.s hs Ap cp S.parts fin W (Rd.Sl.ext hA1 hW) (hp1.ext hW) hn hN ho (FExt hF1 hW)
  (have p0 := blk_cell (hb1) 0; have p1 := blk_cell (hb1) 1; have p2 := blk_cell (hb1) 2; have p3 := blk_cell (hb1) 3; have p4 := blk_cell (hb1) 4; have p5 := blk_cell (hb1) 5; have p6 := blk_cell (hb1) 6; have p7 := blk_cell (hb1) 7; have p8 := blk_cell (hb1) 8)
  (have q0 := blk_cell (B1) 0; have q1 := blk_cell (B1) 1; have q2 := blk_cell (B1) 2; have q3 := blk_cell (B1) 3; have q4 := blk_cell (B1) 4; have q5 := blk_cell (B1) 5; have q6 := blk_cell (B1) 6)
  (have r0 := blk_cell (B2) 0; have rf0 := blk_froz (B2) 0; have r1 := blk_cell (B2) 1; have rf1 := blk_froz (B2) 1; have r2 := blk_cell (B2) 2; have rf2 := blk_froz (B2) 2)
  clear h hsl hA
  go_region_law (first | (go_simp; go_at_call 49; with_reducible refine Calls.mono (hrun _ ?_) ?_; exact (by (repeat (first | with_reducible refine Ext.drew ?_ | with_reducible refine Ext.drewN ?_ _ | with_reducible refine Ext.alloc ?_ _)); first | with_reducible assumption | with_reducible exact Ext.refl _); rintro e w2 ⟨A2, c2, n, rfl, hs2, hE2⟩; have hx2 := Ext.trans (a := w1) (by (repeat (first | with_reducible refine Ext.drew ?_ | with_reducible refine Ext.drewN ?_ _ | with_reducible refine Ext.alloc ?_ _)); first | with_reducible assumption | with_reducible exact Ext.refl _) hE2; (have z0 := blk_cell (hx2.blk B2) 0; have zf0 := blk_froz (hx2.blk B2) 0; have z1 := blk_cell (hx2.blk B2) 1; have zf1 := blk_froz (hx2.blk B2) 1; have z2 := blk_cell (hx2.blk B2) 2; have zf2 := blk_froz (hx2.blk B2) 2); dsimp only))
  all_goals
    (try simp only [Exit.inBlock, Exit.then])
    go_wp2_with (fail)
    have s0 := blk_set (hx2.blk B2) 0 (.slice A2 (told S.s fin S.parts).length c2)
    have s1 := blk_set s0 1 (.slice none 0 0)
    have s2 := blk_set s1 2 (.int .i64 n)
    have K3 := ((keep_set1 w2 (x + 1) 0 (.slice A2 (told S.s fin S.parts).length c2)).trans (keep_set1 _ (x + 1) 1 (.slice none 0 0))).trans (keep_set1 _ (x + 1) 2 (.int .i64 n))
    (have e0 := blk_cell (s2) 0; have e1 := blk_cell (s2) 1; have e2 := blk_cell (s2) 2)
    (try simp only [Exit.inBlock, Exit.then])
    refine bodyPost_ret (v := .tuple #[.agg #[.slice A2 (told S.s fin S.parts).length c2, .slice none 0 0, .int .i64 n], .int .i64 0]) (by simp [results, Tryz.results21, go_sem, e0, e1, e2]) rfl ?_
    refine ⟨A2, c2, n, rfl, ?_, ?_⟩
    · first | exact (hs2.keep (K3.mono (fun _ _ q => .inr q))).narrow (by decide) (fun j _ q => .inl q) | exact ((hs2.keep (K3.mono (fun _ _ q => .inr q))).narrow (by decide) (fun j _ q => .inl q)).ext ((Ext.refl _).drew)
    · first | exact (hE1.trans hx2).keepNew K3 (fun j q => by omega) | exact ((hE1.trans hx2).keepNew K3 (fun j q => by omega)).drew
end K72
namespace K73
open Go Go.RowKit
open KB KB2 K1 K2 K3 K5 K6 K7 P2 P5 K31 K35 K38 K43 K44 K46 K54 K72
open K70 (PX)
set_option linter.unusedVariables false
set_option linter.unusedSimpArgs false
set_option maxHeartbeats 2000000
set_option maxRecDepth 100000
theorem endsC (tg : Nat) (v0 v1 v2 v3 v4 v5 v6 v7 : Value) (w : World) (hb : w.heap[tg]? = some (.cells #[v0, v1, v2, v3, v4, v5, v6, v7, .bool false] 85 (0, 0))) :
    Calls Tryz.prog 75 #[PX tg, .int .i64 0] w fun e w' => e = .returned (.int .i64 0) ∧ w'.heap[tg]? = some (.cells #[v0, v1, v2, v3, v4, v5, v6, v7, .bool false] 85 (0, 0)) ∧ Keep (fun k => k = tg) w w' := by
  have p8 := blk_cell hb 8
  have pf8 := blk_froz hb 8
  go_enter Tryz.func75, Tryz.ntmps75
  go_wp2
  go_ret
  exact ⟨rfl, blk_set hb 8 _, keep_set1 _ _ _ _⟩
theorem ends_same (tg : Nat) (v0 v1 v2 v3 v4 v5 v6 v7 : Value) (w : World) (hb : w.heap[tg]? = some (.cells #[v0, v1, v2, v3, v4, v5, v6, v7, .bool false] 85 (0, 0))) :
    Calls Tryz.prog 75 #[PX tg, .int .i64 0] w fun e w' => e = .returned (.int .i64 0) ∧ w'.heap[tg]? = some (.cells #[v0, v1, v2, v3, v4, v5, v6, v7, .bool false] 85 (0, 0)) ∧ Keep (fun k => k = tg) w w' := endsC tg v0 v1 v2 v3 v4 v5 v6 v7 w hb
theorem wr1C (F : Nat → Prop) (tg dg mg : Nat) (D : Dsk) (w : World) (h : DiskAt F w dg mg D) (hl : D.lim + 1 ≤ 100000) (n : ByteArray) (hn20 : n.size ≤ 20) (i : Nat) (hi : getA n D.M = some i) (fb : List Int) (fs : Int) (hf : D.files[i]? = some (fb, fs)) (hF : ∀ k, F k → k < w.heap.size)
    (xt xn : Nat) (hxt : w.cell? ⟨xt, 0, none⟩ = some (PX tg)) (hxn : w.cell? ⟨xn, 0, none⟩ = some (.string n)) (ht : w.cell? ⟨tg, 0, none⟩ = some (PX dg)) :
    Calls Tryz.prog 70 #[PX xt, PX xn] w fun e w' => e = .returned (.int .i64 0) ∧ DiskAt F w' dg mg { D with steps := D.steps + 1, lim := D.lim + 1, files := D.files.set i (fb, fb.length) } ∧ Keep (Two' dg mg) w w' := by
  have hsy := fun W (hW : Ext w W) => syncC F dg mg D W (h.ext hW) hl n hn20 i hi fb fs hf (FExt hF hW)
  have keep : ∀ w', Ext w w' → Ext w w' ∧ w'.cell? ⟨xt, 0, none⟩ = some (PX tg) ∧ w'.cell? ⟨xn, 0, none⟩ = some (.string n) ∧ w'.cell? ⟨tg, 0, none⟩ = some (PX dg) := fun w' k => ⟨k, k.cell hxt, k.cell hxn, k.cell ht⟩
  go_enter Tryz.func70, Tryz.ntmps70
  go_wp2_with (fail)
  go_still_tail 5, (by kernel_rfl)
  change wpList _ _ _ _ _ w.drew
  go_wp2_with (first | (go_at_call 71; with_reducible refine Calls.mono (hsy _ ?_) ?_; exact (by (repeat (first | with_reducible refine Ext.drew ?_ | with_reducible refine Ext.drewN ?_ _ | with_reducible refine Ext.alloc ?_ _)); first | with_reducible assumption | with_reducible exact Ext.refl _); rintro e w1 ⟨rfl, h1, k1⟩))
  go_ret
  exact ⟨rfl, h1, k1.pre (by (repeat (first | with_reducible refine Ext.drew ?_ | with_reducible refine Ext.drewN ?_ _ | with_reducible refine Ext.alloc ?_ _)); first | with_reducible assumption | with_reducible exact Ext.refl _)⟩
theorem wr2C (F : Nat → Prop) (tg dg mg : Nat) (D : Dsk) (w : World) (h : DiskAt F w dg mg D) (hl : D.lim + 4 ≤ 100000) (hF : ∀ k, F k → k < w.heap.size) (v0 v1 v2 v3 v4 v5 v6 : Value) (b : List Int)
    (hput : ∀ W, Ext w W → Calls Tryz.prog 89 #[.agg #[v0, v1, v2, v3, v4, v5, v6]] W fun e w' => ∃ A c, e = .returned (.tuple #[.slice A b.length c, .bool true]) ∧ rdU8.Sl (DF F dg mg) w' A c b ∧ Ext W w')
    (i : Nat) (hi : getA logS D.M = some i) (fb : List Int) (fs : Int) (hf : D.files[i]? = some (fb, fs)) (hu : used D.fs + b.length ≤ D.quota) (hsum : fb.length + b.length ≤ 10000000)
    (xt xr : Nat) (hxt : w.cell? ⟨xt, 0, none⟩ = some (PX tg)) (hxr : w.heap[xr]? = some (.cells #[v0, v1, v2, v3, v4, v5, v6] 92 (0, 0))) (ht : w.cell? ⟨tg, 0, none⟩ = some (PX dg)) :
    Calls Tryz.prog 73 #[PX xt, PX xr] w fun e w' => e = .returned (.int .i64 0) ∧ DiskAt F w' dg mg { D with steps := D.steps + 2, lim := D.lim + 2, files := D.files.set i (fb ++ b, (fb ++ b).length) } ∧ Keep (Two' dg mg) w w' := by
  have hlg := fun W (hW : Ext w W) => logC F dg mg D W (h.ext hW) hl (FExt hF hW) v0 v1 v2 v3 v4 v5 v6 b (fun W' hW' => hput W' (hW.trans hW')) i hi fb fs hf hu hsum
  (have p0 := blk_cell (hxr) 0; have p1 := blk_cell (hxr) 1; have p2 := blk_cell (hxr) 2; have p3 := blk_cell (hxr) 3; have p4 := blk_cell (hxr) 4; have p5 := blk_cell (hxr) 5; have p6 := blk_cell (hxr) 6)
  go_enter Tryz.func73, Tryz.ntmps73
  go_wp2_with (fail)
  go_still_tail 5, (by kernel_rfl)
  change wpList _ _ _ _ _ w.drew
  go_wp2_with (first | (go_at_call 74; with_reducible refine Calls.mono (hlg _ ?_) ?_; exact (by (repeat (first | with_reducible refine Ext.drew ?_ | with_reducible refine Ext.drewN ?_ _ | with_reducible refine Ext.alloc ?_ _)); first | with_reducible assumption | with_reducible exact Ext.refl _); rintro e w1 ⟨rfl, h1, k1⟩))
  go_ret
  exact ⟨rfl, h1, k1.pre (by (repeat (first | with_reducible refine Ext.drew ?_ | with_reducible refine Ext.drewN ?_ _ | with_reducible refine Ext.alloc ?_ _)); first | with_reducible assumption | with_reducible exact Ext.refl _)⟩
end K73
namespace K74
open Go Go.RowKit
open KB KB2 K1 K2 K3 K5 K6 K7 K17 P2 P5 P6 P8 K31 K35 K38 K40 K42 K43 K44 K46 K54 K57 K72 K73
open K56 (set_last get_last)
open K19 (PartAt)
open K70 (PX)
set_option linter.unusedVariables false
set_option linter.unusedSimpArgs false
set_option maxHeartbeats 2000000
set_option maxRecDepth 100000
theorem used_file (files : List FileM) (x : FileM) (n : ByteArray) (M : List (ByteArray × Nat)) (hM : SrtA M) (h : ∀ p ∈ M, p.2 < files.length) (hn : getA n M = none) : used (fsOf (files ++ [x]) (putA n files.length M)) = used (fsOf files M) + x.1.length := by
  have hg : getA n (fsOf (files ++ [x]) M) = none := by rw [getA_fsOf, hn]; rfl
  have ht := total_put (fun f : FileM => f.1.length) n ((files ++ [x]).getD files.length ([], 0)) (fsOf (files ++ [x]) M) (fsOf_srt hM)
  rw [hg] at ht
  have hx : (files ++ [x]).getD files.length ([], 0) = x := by simp [List.getD_eq_getElem?_getD]
  rw [hx] at ht
  rw [used, fsOf_put, hx, used]
  rw [fsOf_app files _ M h] at ht ⊢
  simpa using ht
abbrev recA (kd : Int) (vi : Value) (id : Int) : Value := .agg #[.int .i64 kd, .slice none 0 0, .int .i64 0, .int .i64 0, .int .i64 0, vi, .int .i64 id]
theorem writeSC (F : Nat → Prop) (tg dg mg : Nat) (pv : Value) (S : StM) (hs : S.s.Ok) (rows : List Row) (hro : PartOk S.s rows) (w : World) (h : StoreAt F w tg dg mg pv S) (hid : S.next < 100) (hl : S.D.lim + 20 ≤ 100000) (hM : S.D.M.length < 200) (hno : getA (nameS S.next) S.D.M = none) (hem : getA ⟨#[]⟩ S.D.M = none)
    (li : Nat) (hli : getA logS S.D.M = some li) (lg : List Int) (ls : Int) (hlf : S.D.files[li]? = some (lg, ls)) (kd : Int) (Av : Option Addr) (nv cv : Nat) (rc : List Int) (ids2 : List Int) (hu : used S.D.fs + (partB S.s rows).length + rc.length ≤ S.D.quota) (hls : lg.length + rc.length ≤ 10000000)
    (Ar : Option Addr) (cr : Nat) (hrows : rdRow.Sl (Fv (SF F tg dg mg) pv) w Ar cr rows)
    (hput : ∀ W, Keep (SF F tg dg mg) w W → Calls Tryz.prog 89 #[recA kd (.slice Av nv cv) S.next] W fun e w' => ∃ A c, e = .returned (.tuple #[.slice A rc.length c, .bool true]) ∧ rdU8.Sl (DF (Fv (fun k => F k ∨ k = tg) pv) dg mg) w' A c rc ∧ Ext W w')
    (happ : ∀ W A c Ai ci, Keep (SF F tg dg mg) w W → (rdInt .i64).Sl (Fv (SF F tg dg mg) pv) W Ai ci S.ids → Calls Tryz.prog 76 #[stV A c S.s Ai ci S.ids S.next, recA kd (.slice Av nv cv) S.next] W fun e w' => ∃ Ai2 ci2, e = .returned (.tuple #[stV A c S.s Ai2 ci2 ids2 (S.next + 1), .bool true]) ∧ (rdInt .i64).Sl (Fv (SF F tg dg mg) pv) w' Ai2 ci2 ids2 ∧ Ext W w')
    (hF : ∀ k, F k → k < w.heap.size) :
    Calls Tryz.prog 29 #[PX tg, .slice Ar rows.length cr, recA kd (.slice Av nv cv) 0] w fun e w' => ∃ g, e = .returned (.tuple #[PX g, .int .i64 0]) ∧ w.heap.size ≤ g ∧ PartAt (Fv (SF F tg dg mg) pv) w' g S.s rows ∧ StoreAt F w' tg dg mg pv { S with ids := ids2, next := S.next + 1, D := wroteD S.D (nameS S.next) (partB S.s rows) li (lg ++ rc) } ∧ Keep (fun k => k = tg ∨ k = dg ∨ k = mg) w w' := by
  obtain ⟨x, hx⟩ : ∃ x, w.heap.size = x := ⟨_, rfl⟩
  have hSF := SFlt h hF
  obtain ⟨ft, td, tm, hD, hpp, hfar, A, c, Ai, ci, hb, hA, hi⟩ := h
  have htl := blk_lt hb
  have htx : tg < x := hx ▸ htl
  have htx1 : tg < x + 1 := by omega
  have nx0 : ¬ tg = x := by omega
  have nx1 : ¬ tg = x + 1 := by omega
  have nx2 : ¬ tg = x + 1 + 1 := by omega
  have hw1 : IntKind.i64.wrap ((S.next : Int) + 1) = ((S.next + 1 : Nat) : Int) := by rw [IntKind.wrap_i64]; omega
  (have p0 := blk_cell (hb) 0; have pf0 := blk_froz (hb) 0; have p1 := blk_cell (hb) 1; have pf1 := blk_froz (hb) 1; have p2 := blk_cell (hb) 2; have pf2 := blk_froz (hb) 2; have p3 := blk_cell (hb) 3; have pf3 := blk_froz (hb) 3; have p4 := blk_cell (hb) 4; have pf4 := blk_froz (hb) 4; have p5 := blk_cell (hb) 5; have pf5 := blk_froz (hb) 5; have p6 := blk_cell (hb) 6; have pf6 := blk_froz (hb) 6; have p7 := blk_cell (hb) 7; have pf7 := blk_froz (hb) 7; have p8 := blk_cell (hb) 8; have pf8 := blk_froz (hb) 8)
  go_enter Tryz.func29, Tryz.ntmps29
  go_wp2_with (fail)
  have hb0 : (w.setCell ⟨tg, 6, none⟩ (.int .i64 ((S.next : Int) + 1))).heap[tg]? = some (.cells (stCells dg A c S.s Ai S.ids.length ci (S.next + 1) pv) 85 (0, 0)) := blk_set hb 6 _
  have K0 := keep_set1 w tg 6 (.int .i64 ((S.next : Int) + 1))
  have hx0 : (w.setCell ⟨tg, 6, none⟩ (.int .i64 ((S.next : Int) + 1))).heap.size = x := by simp [hx]
  generalize (w.setCell ⟨tg, 6, none⟩ (.int .i64 ((S.next : Int) + 1))) = w0 at *
  have hE1 := (((Ext.refl w0).alloc (.cells #[PX tg] 29)).alloc (.cells #[.int .i64 kd, .slice none 0 0, .int .i64 0, .int .i64 0, .int .i64 0, .slice Av nv cv, .int .i64 S.next] 92)).alloc (.cells #[.slice A S.s.types.length c, .int .i64 S.s.keys, .int .i64 S.s.mode, .int .i64 S.s.grain, .slice Ai S.ids.length ci, .int .i64 S.next] 82)
  have B1 := blk_old (o' := .cells #[.slice A S.s.types.length c, .int .i64 S.s.keys, .int .i64 S.s.mode, .int .i64 S.s.grain, .slice Ai S.ids.length ci, .int .i64 S.next] 82) (blk_old (o' := .cells #[.int .i64 kd, .slice none 0 0, .int .i64 0, .int .i64 0, .int .i64 0, .slice Av nv cv, .int .i64 S.next] 92) (blk_new w0 (.cells #[PX tg] 29)))
  have B2 := blk_old (o' := .cells #[.slice A S.s.types.length c, .int .i64 S.s.keys, .int .i64 S.s.mode, .int .i64 S.s.grain, .slice Ai S.ids.length ci, .int .i64 S.next] 82) (blk_new (w0.alloc (.cells #[PX tg] 29)) (.cells #[.int .i64 kd, .slice none 0 0, .int .i64 0, .int .i64 0, .int .i64 0, .slice Av nv cv, .int .i64 S.next] 92))
  have B3 := blk_new ((w0.alloc (.cells #[PX tg] 29)).alloc (.cells #[.int .i64 kd, .slice none 0 0, .int .i64 0, .int .i64 0, .int .i64 0, .slice Av nv cv, .int .i64 S.next] 92)) (.cells #[.slice A S.s.types.length c, .int .i64 S.s.keys, .int .i64 S.s.mode, .int .i64 S.s.grain, .slice Ai S.ids.length ci, .int .i64 S.next] 82)
  simp only [World.size_alloc, hx0] at B1 B2 B3
  clear p0 pf0 p1 pf1 p2 pf2 p3 pf3 p4 pf4 p5 pf5 p6 pf6 p7 pf7 p8 pf8
  generalize ((w0.alloc (.cells #[PX tg] 29)).alloc (.cells #[.int .i64 kd, .slice none 0 0, .int .i64 0, .int .i64 0, .int .i64 0, .slice Av nv cv, .int .i64 S.next] 92)).alloc (.cells #[.slice A S.s.types.length c, .int .i64 S.s.keys, .int .i64 S.s.mode, .int .i64 S.s.grain, .slice Ai S.ids.length ci, .int .i64 S.next] 82) = w1 at *
  refine (nameC S.next hid w1).mono ?_; rintro e w2 ⟨rfl, hw⟩; rw [hw]; clear hw
  -- the part's bytes
  have hb1 := hE1.blk hb0
  have K1 : Keep (fun k => k = tg) w w1 := K0.post hE1
  have hsp : ∀ k, k = tg → SF F tg dg mg k := fun k q => .inl (.inr q)
  have hA1 : SchAt (Fv (SF F tg dg mg) pv) w1 A c S.s := Rd.Sl.keep hA (K1.mono (fun k _ q => .inl (hsp k q)))
  have hr1 := hrows.keep (K1.mono (fun k _ q => .inl (hsp k q)))
  have hge := hpp.ge
  have hFP : ∀ k, Fv (SF F tg dg mg) pv k → k < w.heap.size := fun k q => q.elim (hSF k) (fun q => (hge k q).2)
  have hEt := (Ext.refl w1).alloc (.cells #[.string (nameS S.next)] 9)
  have Bt := blk_new w1 (.cells #[.string (nameS S.next)] 9)
  have htw1 := blk_lt hb1
  have hxw1 := blk_lt B1
  have b0 := blk_cell B1 0
  (have p0 := blk_cell (hb1) 0; have p1 := blk_cell (hb1) 1; have p2 := blk_cell (hb1) 2; have p3 := blk_cell (hb1) 3; have p4 := blk_cell (hb1) 4; have p5 := blk_cell (hb1) 5; have p6 := blk_cell (hb1) 6; have p7 := blk_cell (hb1) 7; have p8 := blk_cell (hb1) 8)
  go_wp2_with (fail)
  generalize hyt : w1.heap.size = yt at *
  have hyx : x + 1 + 1 < yt := hyt ▸ blk_lt B3
  replace hb1 := hEt.blk hb1
  replace B1 := hEt.blk B1
  replace B2 := hEt.blk B2
  replace B3 := hEt.blk B3
  replace K1 := K1.post hEt
  replace hA1 := Rd.Sl.ext hA1 hEt
  replace hr1 := hr1.ext hEt
  clear p0 p1 p2 p3 p4 p5 p6 p7 p8 b0 hE1
  generalize (w1.alloc (.cells #[.string (nameS S.next)] 9)) = w2 at *
  refine (writeC (Fv (SF F tg dg mg) pv) A c S.s Ar cr rows w2 hA1 hr1 hro (fun k q => Nat.lt_of_lt_of_le (hFP k q) K1.size)).mono ?_; rintro e w3 ⟨A3, c3, rfl, hs3, hE3⟩
  replace hb1 := hE3.blk hb1
  replace B1 := hE3.blk B1
  replace B2 := hE3.blk B2
  replace B3 := hE3.blk B3
  replace Bt := hE3.blk Bt
  replace K1 := K1.post hE3
  clear hA1 hr1 hEt hE3
  go_wp2_with (fail)
  have hdl := hD.lt
  have hF' : ∀ k, Fv (fun k => F k ∨ k = tg) pv k → k < w.heap.size := fun k q => q.elim (fun q => q.elim (hF k) (fun q => by omega)) (fun q => (hge k q).2)
  have nt : ¬ Two' dg mg tg := fun q => q.elim td tm
  have n0 : ¬ Two' dg mg x := fun q => by rcases q with q | q <;> omega
  have n1 : ¬ Two' dg mg (x + 1) := fun q => by rcases q with q | q <;> omega
  have n2 : ¬ Two' dg mg (x + 1 + 1) := fun q => by rcases q with q | q <;> omega
  have ny : ¬ Two' dg mg yt := fun q => by rcases q with q | q <;> omega
  have hz := nameS_size S.next hid
  obtain ⟨i1, i2, i3, hsrt⟩ : (∀ p ∈ S.D.M, p.2 < S.D.files.length) ∧ (∀ f ∈ S.D.files, f.1.length ≤ 10000000) ∧ True ∧ SrtA S.D.M := by
    obtain ⟨_, _, _, _, _, h8, _, _, _, h12, Af, cff, kg, Ac, cc, chs, K, _, _, _, h3, _⟩ := hD
    exact ⟨h8, h12, trivial, h3.srt⟩
  have hD3 := hD.keep (K1.mono (G := Fv (fun k => F k ∨ k = tg) pv) (fun k _ q => .inl (.inr q)))
  have hcr := fun W (hW : Ext w3 W) => createC _ dg mg S.D W (hD3.ext hW) (by omega) (nameS S.next) (by omega) (by omega) (nameS_ne _) hM hno hem (fun k q => Nat.lt_of_lt_of_le (hF' k q) (Nat.le_trans K1.size hW.size))
  have p0 := blk_cell hb1 0
  have b0 := blk_cell B1 0
  have t0 := blk_cell Bt 0
  go_still_tail 5, (by kernel_rfl)
  change wpList _ _ _ _ _ w3.drew
  go_wp2_with (first | (go_at_call 65; with_reducible refine Calls.mono (hcr _ ?_) ?_; exact (by (repeat (first | with_reducible refine Ext.drew ?_ | with_reducible refine Ext.drewN ?_ _ | with_reducible refine Ext.alloc ?_ _)); first | with_reducible assumption | with_reducible exact Ext.refl _); rintro e w4 ⟨rfl, hD4, k4⟩))
  have k4' : Keep (Two' dg mg) w3 w4 := k4.pre (by (repeat (first | with_reducible refine Ext.drew ?_ | with_reducible refine Ext.drewN ?_ _ | with_reducible refine Ext.alloc ?_ _)); first | with_reducible assumption | with_reducible exact Ext.refl _)
  clear k4 hcr p0 b0 t0
  replace hb1 := k4'.blk nt hb1
  replace B1 := k4'.blk n0 B1
  replace B2 := k4'.blk n1 B2
  replace B3 := k4'.blk n2 B3
  replace Bt := k4'.blk ny Bt
  have hs4 := hs3.keep (k4'.mono (fun k _ q => q.elim (fun q => .inl (.inr (.inl q))) (fun q => .inl (.inr (.inr q)))))
  have hg4 : getA (nameS S.next) (putA (nameS S.next) S.D.files.length S.D.M) = some S.D.files.length := by rw [getA_put, if_pos rfl]
  have hsl4 : rdU8.Sl (DF (Fv (fun k => F k ∨ k = tg) pv) dg mg) w4 A3 c3 (partB S.s rows) := hs4.narrow Nat.one_pos (fun k _ q => by
    rcases q with (q | q) | q | q
    · exact .inl (.inl q)
    · exact .inr q
    · exact .inl (.inr (.inl q))
    · exact .inl (.inr (.inr q)))
  have hu4 : used (fsOf (S.D.files ++ [([], 0)]) (putA (nameS S.next) S.D.files.length S.D.M)) = used S.D.fs := used_new _ _ _ hsrt i1 hno
  have hap := fun W (hW : Ext w4 W) => appendC _ dg mg _ W (hD4.ext hW) (by show S.D.lim + 3 + 1 ≤ _; omega) (nameS S.next) (by omega) S.D.files.length hg4 [] 0 (get_last _ _) A3 c3 (partB S.s rows) (hsl4.ext hW) (by show used (fsOf _ _) + _ ≤ S.D.quota; rw [hu4]; omega) (by simp only [List.length_nil]; have := hro.small; omega) (fun k q => Nat.lt_of_lt_of_le (hF' k q) (Nat.le_trans (Nat.le_trans K1.size k4'.size) hW.size))
  have p0 := blk_cell hb1 0
  have b0 := blk_cell B1 0
  have t0 := blk_cell Bt 0
  have K4 : Keep (fun k => k = tg ∨ Two' dg mg k) w w4 := K1.or k4'
  clear hs3 k4' K1 hD3
  go_still_tail 6, (by kernel_rfl)
  change wpList _ _ _ _ _ w4.drew
  go_wp2_with (first | (go_at_call 66; with_reducible refine Calls.mono (hap _ ?_) ?_; exact (by (repeat (first | with_reducible refine Ext.drew ?_ | with_reducible refine Ext.drewN ?_ _ | with_reducible refine Ext.alloc ?_ _)); first | with_reducible assumption | with_reducible exact Ext.refl _); rintro e w5 ⟨rfl, hD5, k5⟩; have k5' : Keep (Two' dg mg) w4 w5 := k5.pre (by (repeat (first | with_reducible refine Ext.drew ?_ | with_reducible refine Ext.drewN ?_ _ | with_reducible refine Ext.alloc ?_ _)); first | with_reducible assumption | with_reducible exact Ext.refl _); clear p0 b0 t0; have p0 := blk_cell (k5'.blk nt hb1) 0; have b0 := blk_cell (k5'.blk n0 B1) 0))
  clear k5 hap p0 b0
  rw [List.nil_append, set_last] at hD5
  replace hb1 := k5'.blk nt hb1
  replace B1 := k5'.blk n0 B1
  replace B2 := k5'.blk n1 B2
  replace B3 := k5'.blk n2 B3
  replace Bt := k5'.blk ny Bt
  have hs5 := hs4.keep (k5'.mono (fun k _ q => q.elim (fun q => .inl (.inr (.inl q))) (fun q => .inl (.inr (.inr q)))))
  have hEf := (Ext.refl w5).alloc (.cells #[.func (.func 70) #[] #[PX x, PX yt], .func (.func 72) #[PX dg] #[], .func (.func 73) #[] #[PX x, PX (x + 1)]] 151)
  have Bf := blk_new w5 (.cells #[.func (.func 70) #[] #[PX x, PX yt], .func (.func 72) #[PX dg] #[], .func (.func 73) #[] #[PX x, PX (x + 1)]] 151)
  have hK05 : Keep (fun k => k = tg ∨ Two' dg mg k) w w5 := K4.trans (k5'.mono (fun _ _ q => .inr q))
  have hyt5 : yt < w5.heap.size := blk_lt Bt
  generalize hys : w5.heap.size = ys at *
  replace hb1 := hEf.blk hb1
  replace B1 := hEf.blk B1
  replace B2 := hEf.blk B2
  replace B3 := hEf.blk B3
  replace Bt := hEf.blk Bt
  replace hs5 := hs5.ext hEf
  replace hD5 := hD5.ext hEf
  have hK06 := hK05.post hEf
  clear K4 k5' hs4 hsl4 hD4 hK05 K0 hEf
  generalize (w5.alloc (.cells #[.func (.func 70) #[] #[PX x, PX yt], .func (.func 72) #[PX dg] #[], .func (.func 73) #[] #[PX x, PX (x + 1)]] 151)) = w6 at *
  have nG : ∀ k, x ≤ k → ¬ (k = tg ∨ Two' dg mg k) := fun k hk q => by rcases q with q | q | q <;> omega
  have hGS : ∀ k, (k = tg ∨ Two' dg mg k) → SF F tg dg mg k := fun k q => by
    rcases q with q | q | q
    · exact .inl (.inr q)
    · exact .inr (.inl q)
    · exact .inr (.inr q)
  have hKS : ∀ W, Keep (fun k => k = tg ∨ Two' dg mg k) w W → Keep (SF F tg dg mg) w W := fun W k => k.mono (fun k _ q => hGS k q)
  have hu6 : used (fsOf (S.D.files ++ [(((partB S.s rows), ((partB S.s rows).length : Int)) : FileM)]) (putA (nameS S.next) S.D.files.length S.D.M)) = used S.D.fs + (partB S.s rows).length := used_file _ _ _ _ hsrt i1 hno
  have hlil : li < S.D.files.length := i1 _ (getA_mem hli)
  have hli4 : getA logS (putA (nameS S.next) S.D.files.length S.D.M) = some li := by
    rw [getA_put, if_neg (fun e => (nameS_log S.next).1 e.symm)]; exact hli
  have hlf4 : ∀ z : FileM, (S.D.files ++ [z])[li]? = some (lg, ls) := fun z => by rw [List.getElem?_append_left hlil]; exact hlf
  have hF6 : ∀ k, Fv (fun k => F k ∨ k = tg) pv k → k < w6.heap.size := fun k q => Nat.lt_of_lt_of_le (hF' k q) hK06.size
  refine wp_loop_rounds 4 ?_
  rw [rounds_succ]
  have hc := fun W (hW : Ext w6 W) => wr1C _ tg dg mg _ W (hD5.ext hW) (by show S.D.lim + 3 + 1 + 1 ≤ _; omega) (nameS S.next) (by omega) S.D.files.length hg4 (partB S.s rows) 0 (get_last _ _) (FExt hF6 hW) x yt (hW.cell (blk_cell B1 0)) (hW.cell (blk_cell Bt 0)) (hW.cell (blk_cell hb1 0))
  have f0 := blk_cell Bf 0
  have b0 := blk_cell B1 0
  have hen := fun W (hW : W.heap[tg]? = some _) => endsC tg (PX dg) (.slice A S.s.types.length c) (.int .i64 S.s.keys) (.int .i64 S.s.mode) (.int .i64 S.s.grain) (.slice Ai S.ids.length ci) (.int .i64 (S.next + 1 : Nat)) pv W hW
  have keep : ∀ w', Keep (fun k => k = tg ∨ Two' dg mg k) w6 w' → Keep (fun k => k = tg ∨ Two' dg mg k) w6 w' ∧ w'.cell? ⟨x, 0, none⟩ = some (PX tg) := fun w' h => ⟨h, h.cell (nG x (Nat.le_refl _)) b0⟩
  go_wp2_with (fail)
  go_region_held3 (fun w' => Keep (fun k => k = tg ∨ Two' dg mg k) w6 w' ∧ w'.cell? ⟨x, 0, none⟩ = some (PX tg)) (((try dsimp only); refine keep _ ?_; first | with_reducible assumption | exact (Ext.keep (w := w6) (by (repeat (first | with_reducible refine Ext.drew ?_ | with_reducible refine Ext.drewN ?_ _ | with_reducible refine Ext.alloc ?_ _)); first | with_reducible assumption | with_reducible exact Ext.refl _) _))) (first | (go_at_call 70; with_reducible refine Calls.mono (hc _ ?_) ?_; exact (by (repeat (first | with_reducible refine Ext.drew ?_ | with_reducible refine Ext.drewN ?_ _ | with_reducible refine Ext.alloc ?_ _)); first | with_reducible assumption | with_reducible exact Ext.refl _); rintro e w7 ⟨rfl, hDw7, ka⟩; have ka' : Keep (Two' dg mg) w6 w7 := ka.pre (by (repeat (first | with_reducible refine Ext.drew ?_ | with_reducible refine Ext.drewN ?_ _ | with_reducible refine Ext.alloc ?_ _)); first | with_reducible assumption | with_reducible exact Ext.refl _); have hba := ka'.blk nt hb1; have kg : Keep (fun k => k = tg ∨ Two' dg mg k) w6 w7 := ka'.mono (fun _ _ q => .inr q)) | (go_at_call 75; with_reducible refine Calls.mono (hen _ ?_) ?_; exact hba; rintro e w8 ⟨rfl, hbb, kb⟩; have kh : Keep (fun k => k = tg ∨ Two' dg mg k) w6 w8 := kg.trans (kb.mono (fun _ _ q => .inl q))))
  (try simp only [Exit.inBlock, Exit.then])
  go_wp2_with (fail)
  have hDw8 := hDw7.keep (kb.mono (G := Fv (fun k => F k ∨ k = tg) pv) (fun _ _ q => .inl (.inr q)))
  clear hc hen keep f0 b0 hDw7 hba hb1
  have hb1 := hbb
  replace B1 := kh.blk (nG _ (by omega)) B1
  replace B2 := kh.blk (nG _ (by omega)) B2
  replace B3 := kh.blk (nG _ (by omega)) B3
  replace Bt := kh.blk (nG _ (by omega)) Bt
  replace Bf := kh.blk (nG _ (by omega)) Bf
  replace hs5 := hs5.keep (kh.mono (fun k _ q => .inl (hGS k q)))
  have hFw8 : ∀ k, Fv (fun k => F k ∨ k = tg) pv k → k < w8.heap.size := fun k q => Nat.lt_of_lt_of_le (hF6 k q) kh.size
  have hK0w8 := hK06.trans kh
  clear hbb ka ka' kg
  rw [set_last] at hDw8
  rw [rounds_succ]
  have hc := fun W (hW : Ext w8 W) => syncDirC _ dg mg _ W (hDw8.ext hW) (by show S.D.lim + 3 + 1 + 1 + 1 ≤ _; omega) (FExt hFw8 hW)
  have f0 := blk_cell Bf 1
  have b0 := blk_cell B1 0
  have hen := fun W (hW : W.heap[tg]? = some _) => endsC tg (PX dg) (.slice A S.s.types.length c) (.int .i64 S.s.keys) (.int .i64 S.s.mode) (.int .i64 S.s.grain) (.slice Ai S.ids.length ci) (.int .i64 (S.next + 1 : Nat)) pv W hW
  have keep : ∀ w', Keep (fun k => k = tg ∨ Two' dg mg k) w8 w' → Keep (fun k => k = tg ∨ Two' dg mg k) w8 w' ∧ w'.cell? ⟨x, 0, none⟩ = some (PX tg) := fun w' h => ⟨h, h.cell (nG x (Nat.le_refl _)) b0⟩
  go_wp2_with (fail)
  go_region_held3 (fun w' => Keep (fun k => k = tg ∨ Two' dg mg k) w8 w' ∧ w'.cell? ⟨x, 0, none⟩ = some (PX tg)) (((try dsimp only); refine keep _ ?_; first | with_reducible assumption | exact (Ext.keep (w := w8) (by (repeat (first | with_reducible refine Ext.drew ?_ | with_reducible refine Ext.drewN ?_ _ | with_reducible refine Ext.alloc ?_ _)); first | with_reducible assumption | with_reducible exact Ext.refl _) _))) (first | (go_at_call 72; with_reducible refine Calls.mono (hc _ ?_) ?_; exact (by (repeat (first | with_reducible refine Ext.drew ?_ | with_reducible refine Ext.drewN ?_ _ | with_reducible refine Ext.alloc ?_ _)); first | with_reducible assumption | with_reducible exact Ext.refl _); rintro e w9 ⟨rfl, hDw9, ka⟩; have ka' : Keep (Two' dg mg) w8 w9 := ka.pre (by (repeat (first | with_reducible refine Ext.drew ?_ | with_reducible refine Ext.drewN ?_ _ | with_reducible refine Ext.alloc ?_ _)); first | with_reducible assumption | with_reducible exact Ext.refl _); have hba := ka'.blk nt hb1; have kg : Keep (fun k => k = tg ∨ Two' dg mg k) w8 w9 := ka'.mono (fun _ _ q => .inr q)) | (go_at_call 75; with_reducible refine Calls.mono (hen _ ?_) ?_; exact hba; rintro e w10 ⟨rfl, hbb, kb⟩; have kh : Keep (fun k => k = tg ∨ Two' dg mg k) w8 w10 := kg.trans (kb.mono (fun _ _ q => .inl q))))
  (try simp only [Exit.inBlock, Exit.then])
  go_wp2_with (fail)
  have hDw10 := hDw9.keep (kb.mono (G := Fv (fun k => F k ∨ k = tg) pv) (fun _ _ q => .inl (.inr q)))
  clear hc hen keep f0 b0 hDw9 hba hb1
  have hb1 := hbb
  replace B1 := kh.blk (nG _ (by omega)) B1
  replace B2 := kh.blk (nG _ (by omega)) B2
  replace B3 := kh.blk (nG _ (by omega)) B3
  replace Bt := kh.blk (nG _ (by omega)) Bt
  replace Bf := kh.blk (nG _ (by omega)) Bf
  replace hs5 := hs5.keep (kh.mono (fun k _ q => .inl (hGS k q)))
  have hFw10 : ∀ k, Fv (fun k => F k ∨ k = tg) pv k → k < w10.heap.size := fun k q => Nat.lt_of_lt_of_le (hFw8 k q) kh.size
  have hK0w10 := hK0w8.trans kh
  clear hbb ka ka' kg
  rw [rounds_succ]
  have hc := fun W (hW : Ext w10 W) => wr2C _ tg dg mg _ W (hDw10.ext hW) (by show S.D.lim + 3 + 1 + 1 + 1 + 4 ≤ _; omega) (FExt hFw10 hW) (.int .i64 kd) (.slice none 0 0) (.int .i64 0) (.int .i64 0) (.int .i64 0) (.slice Av nv cv) (.int .i64 S.next) rc (fun W' hW' => hput W' (hKS W' (hK0w10.trans ((hW.trans hW').keep _)))) li hli4 lg ls (by exact hlf4 _) (by show used (fsOf _ _) + _ ≤ S.D.quota; rw [hu6]; exact hu) hls x (x + 1) (hW.cell (blk_cell B1 0)) (hW.blk B2) (hW.cell (blk_cell hb1 0))
  have f0 := blk_cell Bf 2
  have b0 := blk_cell B1 0
  have hen := fun W (hW : W.heap[tg]? = some _) => endsC tg (PX dg) (.slice A S.s.types.length c) (.int .i64 S.s.keys) (.int .i64 S.s.mode) (.int .i64 S.s.grain) (.slice Ai S.ids.length ci) (.int .i64 (S.next + 1 : Nat)) pv W hW
  have keep : ∀ w', Keep (fun k => k = tg ∨ Two' dg mg k) w10 w' → Keep (fun k => k = tg ∨ Two' dg mg k) w10 w' ∧ w'.cell? ⟨x, 0, none⟩ = some (PX tg) := fun w' h => ⟨h, h.cell (nG x (Nat.le_refl _)) b0⟩
  go_wp2_with (fail)
  go_region_held3 (fun w' => Keep (fun k => k = tg ∨ Two' dg mg k) w10 w' ∧ w'.cell? ⟨x, 0, none⟩ = some (PX tg)) (((try dsimp only); refine keep _ ?_; first | with_reducible assumption | exact (Ext.keep (w := w10) (by (repeat (first | with_reducible refine Ext.drew ?_ | with_reducible refine Ext.drewN ?_ _ | with_reducible refine Ext.alloc ?_ _)); first | with_reducible assumption | with_reducible exact Ext.refl _) _))) (first | (go_at_call 73; with_reducible refine Calls.mono (hc _ ?_) ?_; exact (by (repeat (first | with_reducible refine Ext.drew ?_ | with_reducible refine Ext.drewN ?_ _ | with_reducible refine Ext.alloc ?_ _)); first | with_reducible assumption | with_reducible exact Ext.refl _); rintro e w11 ⟨rfl, hDw11, ka⟩; have ka' : Keep (Two' dg mg) w10 w11 := ka.pre (by (repeat (first | with_reducible refine Ext.drew ?_ | with_reducible refine Ext.drewN ?_ _ | with_reducible refine Ext.alloc ?_ _)); first | with_reducible assumption | with_reducible exact Ext.refl _); have hba := ka'.blk nt hb1; have kg : Keep (fun k => k = tg ∨ Two' dg mg k) w10 w11 := ka'.mono (fun _ _ q => .inr q)) | (go_at_call 75; with_reducible refine Calls.mono (hen _ ?_) ?_; exact hba; rintro e w12 ⟨rfl, hbb, kb⟩; have kh : Keep (fun k => k = tg ∨ Two' dg mg k) w10 w12 := kg.trans (kb.mono (fun _ _ q => .inl q))))
  (try simp only [Exit.inBlock, Exit.then])
  go_wp2_with (fail)
  have hDw12 := hDw11.keep (kb.mono (G := Fv (fun k => F k ∨ k = tg) pv) (fun _ _ q => .inl (.inr q)))
  clear hc hen keep f0 b0 hDw11 hba hb1
  have hb1 := hbb
  replace B1 := kh.blk (nG _ (by omega)) B1
  replace B2 := kh.blk (nG _ (by omega)) B2
  replace B3 := kh.blk (nG _ (by omega)) B3
  replace Bt := kh.blk (nG _ (by omega)) Bt
  replace Bf := kh.blk (nG _ (by omega)) Bf
  replace hs5 := hs5.keep (kh.mono (fun k _ q => .inl (hGS k q)))
  have hFw12 : ∀ k, Fv (fun k => F k ∨ k = tg) pv k → k < w12.heap.size := fun k q => Nat.lt_of_lt_of_le (hFw10 k q) kh.size
  have hK0w12 := hK0w10.trans kh
  clear hbb ka ka' kg
  rw [rounds_succ]
  have hsz12 := hK0w12.size
  have hA12 : SchAt (Fv (SF F tg dg mg) pv) w12 A c S.s := Rd.Sl.keep hA (hK0w12.mono (fun k _ q => .inl (hGS k q)))
  have hi12 := hi.keep (hK0w12.mono (G := Fv (SF F tg dg mg) pv) (fun k _ q => .inl (hGS k q)))
  have hap := fun W (hW : Ext w12 W) => happ W A c Ai ci (hKS W (hK0w12.post hW)) (hi12.ext hW)
  have hop := fun W A' c' (hW : rdU8.Sl (Fv (SF F tg dg mg) pv) W A' c' (partB S.s rows)) (hFW : ∀ k, Fv (SF F tg dg mg) pv k → k < W.heap.size) => K19.openPC (Fv (SF F tg dg mg) pv) A' c' S.s rows (partB S.s rows) rfl W hW hro hFW
  clear hput happ hA hi
  (have p0 := blk_cell (hb1) 0; have pf0 := blk_froz (hb1) 0; have p1 := blk_cell (hb1) 1; have pf1 := blk_froz (hb1) 1; have p2 := blk_cell (hb1) 2; have pf2 := blk_froz (hb1) 2; have p3 := blk_cell (hb1) 3; have pf3 := blk_froz (hb1) 3; have p4 := blk_cell (hb1) 4; have pf4 := blk_froz (hb1) 4; have p5 := blk_cell (hb1) 5; have pf5 := blk_froz (hb1) 5; have p6 := blk_cell (hb1) 6; have pf6 := blk_froz (hb1) 6; have p7 := blk_cell (hb1) 7; have pf7 := blk_froz (hb1) 7; have p8 := blk_cell (hb1) 8; have pf8 := blk_froz (hb1) 8)
  have b0 := blk_cell B1 0
  (have q0 := blk_cell (B2) 0; have q1 := blk_cell (B2) 1; have q2 := blk_cell (B2) 2; have q3 := blk_cell (B2) 3; have q4 := blk_cell (B2) 4; have q5 := blk_cell (B2) 5; have q6 := blk_cell (B2) 6)
  (have r0 := blk_cell (B3) 0; have r1 := blk_cell (B3) 1; have r2 := blk_cell (B3) 2; have r3 := blk_cell (B3) 3; have r4 := blk_cell (B3) 4; have r5 := blk_cell (B3) 5)
  go_wp2_with (fail)
  clear pf0 pf7 pf8 Bf Bt B2 B3 hK06
  go_region_law (first | (go_simp; go_at_call 76; with_reducible refine Calls.mono (hap _ ?_) ?_; exact (by (repeat (first | with_reducible refine Ext.drew ?_ | with_reducible refine Ext.drewN ?_ _ | with_reducible refine Ext.alloc ?_ _)); first | with_reducible assumption | with_reducible exact Ext.refl _); rintro e w13 ⟨Ai2, ci2, rfl, hi13, hE13⟩; have hx13 : Ext w12 w13 := Ext.trans (by (repeat (first | with_reducible refine Ext.drew ?_ | with_reducible refine Ext.drewN ?_ _ | with_reducible refine Ext.alloc ?_ _)); first | with_reducible assumption | with_reducible exact Ext.refl _) hE13; (have z0 := blk_cell (hx13.blk hb1) 0; have zf0 := blk_froz (hx13.blk hb1) 0; have z1 := blk_cell (hx13.blk hb1) 1; have zf1 := blk_froz (hx13.blk hb1) 1; have z2 := blk_cell (hx13.blk hb1) 2; have zf2 := blk_froz (hx13.blk hb1) 2; have z3 := blk_cell (hx13.blk hb1) 3; have zf3 := blk_froz (hx13.blk hb1) 3; have z4 := blk_cell (hx13.blk hb1) 4; have zf4 := blk_froz (hx13.blk hb1) 4; have z5 := blk_cell (hx13.blk hb1) 5; have zf5 := blk_froz (hx13.blk hb1) 5; have z6 := blk_cell (hx13.blk hb1) 6; have zf6 := blk_froz (hx13.blk hb1) 6; have z7 := blk_cell (hx13.blk hb1) 7; have zf7 := blk_froz (hx13.blk hb1) 7; have z8 := blk_cell (hx13.blk hb1) 8; have zf8 := blk_froz (hx13.blk hb1) 8); have b13 := blk_cell (hx13.blk B1) 0; dsimp only))
  all_goals
    (try simp only [Exit.inBlock, Exit.then])
    clear p0 p1 p2 p3 p4 p5 p6 p7 p8 pf1 pf2 pf3 pf4 pf5 pf6 hap b0 q0 q1 q2 q3 q4 q5 q6 r0 r1 r2 r3 r4 r5
    go_wp2_with (fail)
    have s1 := blk_set (hx13.blk hb1) 1 (.slice A S.s.types.length c)
    have s2 := blk_set s1 2 (.int .i64 S.s.keys)
    have s3 := blk_set s2 3 (.int .i64 S.s.mode)
    have s4 := blk_set s3 4 (.int .i64 S.s.grain)
    have s5 := blk_set s4 5 (.slice Ai2 ids2.length ci2)
    have s6 := blk_set s5 6 (.int .i64 ((S.next : Int) + 1))
    have KW := ((((keep_set1 w13 tg 1 (.slice A S.s.types.length c)).trans (keep_set1 _ tg 2 (.int .i64 S.s.keys))).trans (keep_set1 _ tg 3 (.int .i64 S.s.mode))).trans (keep_set1 _ tg 4 (.int .i64 S.s.grain))).trans ((keep_set1 _ tg 5 (.slice Ai2 ids2.length ci2)).trans (keep_set1 _ tg 6 (.int .i64 ((S.next : Int) + 1))))
    clear s1 s2 s3 s4 s5 z0 z1 z2 z3 z4 z5 z6 z7 z8 zf0 zf1 zf2 zf3 zf4 zf5 zf6 zf7 zf8
    generalize ((((((w13.setCell ⟨tg, 1, none⟩ (.slice A S.s.types.length c)).setCell ⟨tg, 2, none⟩ (.int .i64 S.s.keys)).setCell ⟨tg, 3, none⟩ (.int .i64 S.s.mode)).setCell ⟨tg, 4, none⟩ (.int .i64 S.s.grain)).setCell ⟨tg, 5, none⟩ (.slice Ai2 ids2.length ci2)).setCell ⟨tg, 6, none⟩ (.int .i64 ((S.next : Int) + 1))) = w14 at *
    have hb14 : w14.heap[tg]? = some (.cells (stCells dg A c S.s Ai2 ids2.length ci2 (S.next + 1) pv) 85 (0, 0)) := s6
    have kfp : Keep (Fv (SF F tg dg mg) pv) w13 w14 := KW.mono (fun k _ q => .inl (hsp k q))
    have hsz14 : w.heap.size ≤ w14.heap.size := Nat.le_trans hsz12 (Nat.le_trans hx13.size KW.size)
    refine (hop w14 A3 c3 ((hs5.ext hx13).keep kfp) (fun k q => Nat.lt_of_lt_of_le (hFP k q) hsz14)).mono ?_; rintro e w15 ⟨g, rfl, hg, hpg, hE15⟩
    go_wp2
    go_returns
    have hKA : Keep (fun k => k = tg ∨ Two' dg mg k) w w14 := (hK0w12.post hx13).trans (KW.mono (fun _ _ q => .inl q))
    have hgef : ∀ k, pv.ownBlock = some k → ¬ (k = tg ∨ Two' dg mg k) := fun k hk q => hfar k hk (hGS k q)
    refine ⟨g, rfl, Nat.le_trans hsz14 hg, hpg, ⟨ft, td, tm, ?_, ?_, hfar, A, c, Ai2, ci2, hE15.blk hb14, ?_, ?_⟩, hKA.post hE15⟩
    · exact ((hDw12.ext hx13).keep (KW.mono (G := Fv (fun k => F k ∨ k = tg) pv) (fun _ _ q => .inl (.inr q)))).ext hE15
    · exact (hpp.keep2 (hKA.mono (fun k _ q => .inl (hGS k q))) (fun k hk => hKA.block k (hge k hk).2 (hgef k hk))).ext hE15
    · exact Rd.Sl.ext (Rd.Sl.keep (Rd.Sl.ext hA12 hx13) kfp) hE15
    · exact (hi13.keep kfp).ext hE15
end K74
namespace K75
open Go Go.RowKit
open KB KB2 K1 K2 K3 K5 K6 K7 K17 P2 P4 P5 P8 K25 K31 K35 K38 K54 K57 K71 K72 K74
open K19 (PartAt)
open K70 (PX)
open K65 (own_len)
set_option linter.unusedVariables false
set_option linter.unusedSimpArgs false
set_option maxHeartbeats 2000000
set_option maxRecDepth 100000
theorem disk_narrow {F G : Nat → Prop} {w : World} {dg mg : Nat} {D : Dsk} (h : DiskAt F w dg mg D) (hg : ∀ k, k < w.heap.size → G k → F k) : DiskAt G w dg mg D := by
  have hlt := h.lt
  obtain ⟨fd, fm, le, sl, ql, h8, h9, h10, h11, h12, Af, cf, kg, Ac, cc, chs, K, hb, h1, h2, h3, h4, h5, h6, h7⟩ := h
  have hn : ∀ k, k < w.heap.size → DF G dg mg k → DF F dg mg k := fun k hk q => q.elim (fun q => .inl (hg k hk q)) .inr
  exact ⟨fun q => fd (hg dg hlt.1 q), fun q => fm (hg mg hlt.2 q), le, sl, ql, h8, h9, h10, h11, h12, Af, cf, kg, Ac, cc, chs, K, hb, h1.narrow (by decide) hn, h2.narrow (by decide) hn, h3, h4, h5, fun q => h6 (hg kg h4.lt q), h7⟩
/-- One part more. -/
theorem store_push {F : Nat → Prop} {w w' : World} {tg dg mg : Nat} {pv pv' : Value} {S : StM} {rows : List Row} (h : StoreAt F w tg dg mg pv S) (hF : ∀ k, F k → k < w.heap.size) (hown : (rdPart S.s).Own (SF F tg dg mg) 0 88 w' pv' (S.parts ++ [rows])) (hg : w.grownBy w' pv.ownBlock) (hat : At' w pv pv') :
    StoreAt F (w'.setCell ⟨tg, 7, none⟩ pv') tg dg mg pv' { S with parts := S.parts ++ [rows] } ∧ Keep (SB tg dg mg pv) w (w'.setCell ⟨tg, 7, none⟩ pv') := by
  have hSF := SFlt h hF
  obtain ⟨ft, td, tm, hd, hpp, hf, A, c, Ai, ci, hb, h1, h2⟩ := h
  have hge := hpp.ge
  have hpt : ¬ pv.ownBlock = some tg := fun e => hf tg e (.inl (.inr rfl))
  have hpt' : ¬ pv'.ownBlock = some tg := fun e => by
    rcases hat with q | q
    · exact hpt (q ▸ e)
    · rw [q] at e; cases e; exact absurd (blk_lt hb) (Nat.lt_irrefl _)
  have kg : Keep (fun k => pv.ownBlock = some k) w w' := Keep.of_grown hg (fun k hk _ => hk)
  have ks := keep_set1 w' tg 7 pv'
  have hbs := blk_set (kg.blk hpt hb) 7 pv'
  have hnew : ∀ k, k < w.heap.size → pv'.ownBlock = some k → pv.ownBlock = some k := fun k hk e => by
    rcases hat with q | q
    · rw [← q]; exact e
    · rw [q] at e; cases e; exact absurd hk (Nat.lt_irrefl _)
  have hN : ∀ {P : Nat → Prop} k, k < w.heap.size → ((Fv P pv) k ∨ pv'.ownBlock = some k) → Fv P pv k := fun k hk q => q.elim id (fun e => .inr (hnew k hk e))
  refine ⟨⟨ft, td, tm, ?_, ?_, ?_, A, c, Ai, ci, hbs, ?_, ?_⟩, ?_⟩
  · have d1 := (disk_narrow hd (G := fun k => Fv (fun k => F k ∨ k = tg) pv k ∨ pv'.ownBlock = some k) hN).keep (kg.mono (fun k _ q => .inl (.inr q)))
    exact disk_narrow (d1.keep (ks.mono (fun k _ q => .inl (.inl (.inr q))))) (fun k _ q => q.elim (fun q => .inl (.inl q)) .inr)
  · exact hown.keep2 (ks.mono (fun k _ q => .inl (.inl (.inr q)))) (fun k hk => ks.block k (hown.ge k hk).2 (fun e => hpt' (e ▸ hk)))
  · intro k hk q
    rcases hat with e | e
    · exact hf k (e ▸ hk) q
    · rw [e] at hk; cases hk; exact absurd (hSF _ q) (Nat.lt_irrefl _)
  · have d1 := Rd.Sl.keep (Rd.Sl.narrow Nat.one_pos h1 (G := fun k => Fv (SF F tg dg mg) pv k ∨ pv'.ownBlock = some k) hN) (kg.mono (fun k _ q => .inl (.inr q)))
    exact Rd.Sl.narrow Nat.one_pos (Rd.Sl.keep d1 (ks.mono (fun k _ q => .inl (.inl (.inl (.inr q)))))) (fun k _ q => q.elim (fun q => .inl (.inl q)) .inr)
  · have d1 := (h2.narrow Nat.one_pos (G := fun k => Fv (SF F tg dg mg) pv k ∨ pv'.ownBlock = some k) hN).keep (kg.mono (fun k _ q => .inl (.inr q)))
    exact (d1.keep (ks.mono (fun k _ q => .inl (.inl (.inl (.inr q)))))).narrow Nat.one_pos (fun k _ q => q.elim (fun q => .inl (.inl q)) .inr)
  · exact (kg.mono (fun k _ q => .inr (.inr (.inr q)))).trans (ks.mono (fun k _ q => .inl q))
theorem ownBlock_len (A : Option Addr) (n m c c' : Nat) : (Value.slice A n c).ownBlock = (Value.slice A m c').ownBlock := by cases A <;> rfl
def sumL (parts : List (List Row)) : Nat := (parts.map List.length).sum
theorem sum_take (parts : List (List Row)) (k : Nat) (hk : k < parts.length) : sumL (parts.take (k + 1)) = sumL (parts.take k) + parts[k].length := by
  rw [take_snoc parts hk, sumL, List.map_append, List.sum_append]; simp [sumL]
theorem sum_le (parts : List (List Row)) (k : Nat) : sumL (parts.take k) ≤ sumL parts := by
  have h := congrArg sumL (List.take_append_drop k parts)
  simp only [sumL, List.map_append, List.sum_append] at h ⊢
  omega
theorem sortS_len (s : Sch) (l : List Row) : (sortS s l).length = l.length := insSort_length _ _ _ _
theorem insertC (F : Nat → Prop) (tg dg mg : Nat) (pv : Value) (S : StM) (hs : S.s.Ok) (l : List Row) (hro : PartOk S.s (sortS S.s l)) (hlr : ∀ r ∈ l, RowOk S.s r) (h1 : 1 ≤ l.length) (h2 : l.length < 20) (w : World) (h : StoreAt F w tg dg mg pv S) (hid : S.next < 100) (hpn : S.parts.length < 40) (hin : S.ids.length < 40) (htot : l.length + sumL S.parts ≤ 2000) (hnx : ∀ n ∈ S.ids, n < S.next)
    (hl : S.D.lim + 20 ≤ 100000) (hM : S.D.M.length < 200) (hno : getA (nameS S.next) S.D.M = none) (hem : getA ⟨#[]⟩ S.D.M = none)
    (li : Nat) (hli : getA logS S.D.M = some li) (lg : List Int) (ls : Int) (hlf : S.D.files[li]? = some (lg, ls)) (hu : used S.D.fs + (partB S.s (sortS S.s l)).length + (recAdd S.next).length ≤ S.D.quota) (hls : lg.length + (recAdd S.next).length ≤ 10000000)
    (Al : Option Addr) (cl : Nat) (hrows : rdRow.Sl (Fv (SF F tg dg mg) pv) w Al cl l) (hF : ∀ k, F k → k < w.heap.size) :
    Calls Tryz.prog 9 #[PX tg, .slice Al l.length cl] w fun e w' => e = .returned (.int .i64 0) ∧ ∃ pv', StoreAt F w' tg dg mg pv' { S with ids := S.ids ++ [(S.next : Int)], next := S.next + 1, parts := S.parts ++ [sortS S.s l], D := wroteD S.D (nameS S.next) (partB S.s (sortS S.s l)) li (lg ++ recAdd S.next) } ∧ (∀ k, pv'.ownBlock = some k → pv.ownBlock = some k ∨ w.heap.size ≤ k) ∧ Keep (SB tg dg mg pv) w w' := by
  have hSF := SFlt h hF
  have hge := h.parts.ge
  have hFP : ∀ k, Fv (SF F tg dg mg) pv k → k < w.heap.size := fun k q => q.elim (hSF k) (fun q => (hge k q).2)
  obtain ⟨Ap, cp, rfl, hpsl⟩ := h.sl
  obtain ⟨A, c, Ai, ci, hb, hA, hi⟩ := h.at_
  have hz := sizesC F tg dg mg _ S w h (by omega) hF (Fv (SF F tg dg mg) (.slice Ap S.parts.length cp)) hFP
  have p8 := blk_cell hb 8
  go_enter Tryz.func9, Tryz.ntmps9
  go_wp2_with (fail)
  refine hz.mono ?_; rintro e w1 ⟨Az, cz, rfl, hsz, hE1⟩
  clear hz p8
  go_wp2_with (fail)
  go_loopw [5, 19] (fun t i wr => ∃ k : Nat, i = .int .i64 k ∧ k ≤ S.parts.length ∧ t = .int .i64 (l.length + sumL (S.parts.take k) : Nat) ∧ wr = w1) (fun _ i _ => S.parts.length - (intOf i).toNat)
  case atStart => exact ⟨0, by go_num, Nat.zero_le _, by simp [sumL], rfl⟩
  case round =>
    obtain ⟨k, rfl, hkl, rfl, rfl⟩ := hrel
    by_cases hlt : k < S.parts.length
    · obtain ⟨b, o, rfl, hc⟩ := int_get hsz (k := k) (by simpa using hlt)
      rw [List.getElem_map] at hc
      have e1 := sum_take S.parts k hlt
      have e2 := sum_le S.parts (k + 1)
      have E1 := As.mk e1
      have E2 := As.mk e2
      clear e1 e2
      generalize sumL (S.parts.take k) = s1 at *
      go_wp2_with (fail)
      go_roundw
      case rel => exact ⟨k + 1, by go_num, by omega, by rw [E1.out]; congr 1; have := E1.out; have := E2.out; unfold wrap64; omega, trivial⟩
      case measure => simp [intOf] <;> omega
    · obtain rfl : k = S.parts.length := by omega
      rw [List.take_length]
      have d1 : decide (((40 : Nat) : Int) ≤ (S.parts.length : Int)) = false := decide_eq_false (by omega)
      have d1' : decide ((40 : Int) ≤ (S.parts.length : Int)) = false := decide_eq_false (by omega)
      have d2 : decide ((2000 : Int) < ((l.length + sumL S.parts : Nat) : Int)) = false := decide_eq_false (by omega)
      generalize l.length + sumL S.parts = tot at *
      have h' := h.ext hE1
      have hb1 := hE1.blk hb
      have hA1 := Rd.Sl.ext hA hE1
      have hr1 := hrows.ext hE1
      have hba := batchC _ A c S.s Al cl l wr hA1 hr1 hlr (by have := hs.n2; omega) h1 (by omega)
      (have p0 := blk_cell (hb1) 0; have p1 := blk_cell (hb1) 1; have p2 := blk_cell (hb1) 2; have p3 := blk_cell (hb1) 3; have p4 := blk_cell (hb1) 4; have p5 := blk_cell (hb1) 5; have p6 := blk_cell (hb1) 6; have p7 := blk_cell (hb1) 7; have p8 := blk_cell (hb1) 8)
      clear hsz
      go_wp2_with (fail)
      refine hba.mono ?_; rintro e w2 ⟨rfl, hE2⟩
      clear p0 p1 p2 p3 p4 p5 p6 p7 p8 hba
      have h2' := h'.ext hE2
      have hb2 := hE2.blk hb1
      have hA2 := Rd.Sl.ext hA1 hE2
      have hr2 := hr1.ext hE2
      have hE02 := hE1.trans hE2
      (have p0 := blk_cell (hb2) 0; have p1 := blk_cell (hb2) 1; have p2 := blk_cell (hb2) 2; have p3 := blk_cell (hb2) 3; have p4 := blk_cell (hb2) 4; have p5 := blk_cell (hb2) 5; have p6 := blk_cell (hb2) 6; have p7 := blk_cell (hb2) 7; have p8 := blk_cell (hb2) 8)
      go_wp2_with (fail)
      refine (sortC _ A c S.s Al cl l w2 hA2 hs hr2 hlr h2 (FExt hFP hE02)).mono ?_; rintro e w3 ⟨A3, c3, rfl, hs3, hE3⟩
      clear p0 p1 p2 p3 p4 p5 p6 p7 p8
      have h3 := h2'.ext hE3
      have hE03 := hE02.trans hE3
      have hF3 := FExt hF hE03
      have hSF3 := FExt hSF hE03
      have hFP3 := FExt hFP hE03
      go_wp2_with (fail)
      refine (writeSC F tg dg mg _ S hs (sortS S.s l) hro w3 h3 hid hl hM hno hem li hli lg ls hlf 2 none 0 0 (recAdd S.next) (S.ids ++ [(S.next : Int)]) hu hls A3 c3 hs3 (fun W k => putAddC _ S.next (by omega) W (fun j q => Nat.lt_of_lt_of_le (hFP3 j (by
        rcases q with (q | q) | q | q
        · exact .inl (.inl q)
        · exact .inr q
        · exact .inl (.inr (.inl q))
        · exact .inl (.inr (.inr q)))) k.size)) (fun W A' c' Ai' ci' k hii => applyAddC _ A' Ai' c' ci' S.s S.ids S.next S.next (by omega) (Int.le_refl _) hin W hii (fun j q => Nat.lt_of_lt_of_le (hFP3 j q) k.size)) hF3).mono ?_
      rintro e w4 ⟨g, rfl, hg, hpg, h4, k4⟩
      obtain ⟨A4, c4, Ai4, ci4, hb4, _, _⟩ := h4.at_
      have hEa := (Ext.refl w4).alloc (.cells #[PX g] 88)
      have h5 := h4.ext hEa
      have hF5 := fun k q => Nat.lt_of_lt_of_le (hF3 k q) (Nat.le_trans k4.size hEa.size)
      have htl4 := blk_lt hb4
      have hpush := fun w5 pv' (ho : (rdPart S.s).Own (SF F tg dg mg) 0 88 w5 pv' (S.parts ++ [sortS S.s l])) hgr hat => store_push (w' := w5) (pv' := pv') h5 hF5 ho hgr hat
      have hpt : ¬ (Value.slice Ap S.parts.length cp).ownBlock = some tg := fun e => h.far tg e (.inl (.inr rfl))
      (have p0 := blk_cell (hb4) 0; have pf0 := blk_froz (hb4) 0; have p1 := blk_cell (hb4) 1; have pf1 := blk_froz (hb4) 1; have p2 := blk_cell (hb4) 2; have pf2 := blk_froz (hb4) 2; have p3 := blk_cell (hb4) 3; have pf3 := blk_froz (hb4) 3; have p4 := blk_cell (hb4) 4; have pf4 := blk_froz (hb4) 4; have p5 := blk_cell (hb4) 5; have pf5 := blk_froz (hb4) 5; have p6 := blk_cell (hb4) 6; have pf6 := blk_froz (hb4) 6; have p7 := blk_cell (hb4) 7; have pf7 := blk_froz (hb4) 7; have p8 := blk_cell (hb4) 8; have pf8 := blk_froz (hb4) 8)
      clear h3 h2' h' h hA hA1 hA2 hi hr1 hr2 hrows hs3 hb hb1 hb2
      have hEb := hEa.blk hb4
      have htl5 : tg < (w4.alloc (.cells #[PX g] 88)).heap.size := blk_lt hEb
      go_wp2_with (first | (at_builtin; refine wpList_pushAt rfl (.tmp 67) (.tmp 69) 83 rfl (rdPart S.s) elPart rfl h5.parts rfl (heap_alloc_new w4 _) (y := sortS S.s l) ⟨g, rfl, hpg.ext hEa⟩ (by show (S.parts.length + 1) * 8 ≤ _; omega) (by unfold maxLen; show S.parts.length + 1 ≤ _; omega) (Nat.zero_le _) ?_; intro v' w5 hown5 hg5 hat5; have hb5 := (hg5.block tg htl5 (fun e => hpt e.symm)).trans hEb; have z7 := blk_cell hb5 7; have zf7 := blk_froz hb5 7; obtain ⟨A9, c9, rfl, hc9, _⟩ := own_len hown5))
      obtain ⟨g5, g6⟩ := hpush w5 _ hown5 hg5 hat5
      go_ret
      rw [show (S.parts ++ [sortS S.s l]).length = S.parts.length + 1 from by simp] at g5 g6
      refine ⟨rfl, _, g5, fun k hk => ?_, ?_⟩
      · have hk' : (Value.slice A9 (S.parts ++ [sortS S.s l]).length c9).ownBlock = some k := (ownBlock_len ..).trans hk
        rcases hat5 with q | q
        · have q' : (Value.slice A9 (S.parts ++ [sortS S.s l]).length c9).ownBlock = (Value.slice Ap S.parts.length cp).ownBlock := q
          left; rw [← q']; exact hk'
        · have q' : (Value.slice A9 (S.parts ++ [sortS S.s l]).length c9).ownBlock = some (w4.alloc (.cells #[PX g] 88)).heap.size := q
          right
          rw [q'] at hk'; cases hk'
          have := hE03.size; have := k4.size; have := hEa.size; omega
      · exact (((hE03.keep _).trans (k4.mono (fun k _ q => by
          rcases q with q | q | q
          · exact .inl q
          · exact .inr (.inl q)
          · exact .inr (.inr (.inl q))))).post hEa).trans g6
end K75
end Go.Proofs.YtbjeejimedhniaaGreatDoor
