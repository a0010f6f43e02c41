/- Contracts of the program's functions, as the walks of the law use them. -/
import Derived.Test.YtbjeejimedhniaaGreatDoorC1
import Derived.Test.YtbjeejimedhniaaGreatDoorC2
import Derived.Test.YtbjeejimedhniaaGreatDoorC23
import Derived.Shelf.Strconv.ParseIntPublic10
import Derived.Test.YtbjeejimedhniaaGreatDoorProg
import Derived.Test.YtbjeejimedhniaaGreatDoorC3
import Derived.Test.YtbjeejimedhniaaGreatDoorC18
import Derived.Test.YtbjeejimedhniaaGreatDoorC19
import Derived.Test.YtbjeejimedhniaaGreatDoorC16
namespace Go.Proofs.YtbjeejimedhniaaGreatDoor
namespace K101
open Go Go.RowKit Go.Shelf Go.Proofs
open KB KB2 K35 K38 K42 K75 K89 K98 K99 K100
set_option linter.unusedVariables false
set_option linter.unusedSimpArgs false
set_option maxHeartbeats 2000000
set_option maxRecDepth 100000
attribute [local go_sem] Oper.semAt_some
/-- The state of the desk between two lines, and what keeps it: O: blocks of others; T: the desk's own. -/
structure Desk (db : Nat) (outs : List (List UInt8)) (ws : List (List ByteArray)) (S : Nat → (Nat → Prop) → (Nat → Prop) → World → Prop) : Prop where
  keep : ∀ k O T W W', S k O T W → Keep O W W' → S k O T W'
  narrow : ∀ k O O' T W, S k O T W → (∀ q, q < W.heap.size → O' q → O q) → S k O' T W
  own : ∀ k O T W, S k O T W → ∀ q, T q → q < W.heap.size ∧ ¬ O q
  line : ∀ k (hk : k < ws.length) (hk2 : k < outs.length) O T W A c, S k O T W → (∀ q, O q → q < W.heap.size) → rdStr.Sl (fun q => O q ∨ T q) W A c ws[k] →
    Calls Tryz.prog 47 #[BX db, .slice A ws[k].length c] W fun e W' => e = .returned (.string (BA outs[k])) ∧ ∃ T', S (k + 1) O T' W' ∧ Keep T W W' ∧ ∀ q, T' q → T q ∨ W.heap.size ≤ q
/-- What is told of the first lines. -/
def toldL (outs : List (List UInt8)) : List UInt8 := (outs.map (fun o => o ++ [10])).flatten
theorem splitSeqC (s : ByteArray) (w : World) : Calls Tryz.prog 44 #[.string s, .string ⟨#[10]⟩] w fun e w' => e = .returned (.func (.func 178) #[] #[.pointer (some ⟨w.heap.size + 1, 0, none⟩), .pointer (some ⟨w.heap.size, 0, none⟩), .pointer (some ⟨w.heap.size + 2, 0, none⟩)]) ∧
    w' = ((w.alloc (.cells #[.string s] 9)).alloc (.cells #[.string ⟨#[10]⟩] 9)).alloc (.cells #[.int .i64 0] 3) := by
  have h2 : Calls Tryz.prog 102 #[.string s, .string ⟨#[10]⟩, .int .i64 0] w fun e w' => e = .returned (.func (.func 178) #[] #[.pointer (some ⟨w.heap.size + 1, 0, none⟩), .pointer (some ⟨w.heap.size, 0, none⟩), .pointer (some ⟨w.heap.size + 2, 0, none⟩)]) ∧
    w' = ((w.alloc (.cells #[.string s] 9)).alloc (.cells #[.string ⟨#[10]⟩] 9)).alloc (.cells #[.int .i64 0] 3) := by
    go_enter Tryz.func102, Tryz.ntmps102
    go_wp2_with (fail)
    go_ret
    exact ⟨rfl, rfl⟩
  have H2 := As.mk h2
  go_enter Tryz.func44, Tryz.ntmps44
  go_wp2_with (fail)
  refine H2.out.mono ?_; rintro e w1 ⟨rfl, rfl⟩
  go_wp2_with (fail)
  go_ret
  exact ⟨rfl, rfl⟩
theorem alloc7 (w : World) (o0 o1 o2 o3 o4 o5 o6 : Obj) :
    (((((((w.alloc o0).alloc o1).alloc o2).alloc o3).alloc o4).alloc o5).alloc o6).heap.size = w.heap.size + 7 ∧
    (((((((w.alloc o0).alloc o1).alloc o2).alloc o3).alloc o4).alloc o5).alloc o6).heap[w.heap.size]? = some o0 ∧
    (((((((w.alloc o0).alloc o1).alloc o2).alloc o3).alloc o4).alloc o5).alloc o6).heap[w.heap.size + 1]? = some o1 ∧
    (((((((w.alloc o0).alloc o1).alloc o2).alloc o3).alloc o4).alloc o5).alloc o6).heap[w.heap.size + 2]? = some o2 ∧
    (((((((w.alloc o0).alloc o1).alloc o2).alloc o3).alloc o4).alloc o5).alloc o6).heap[w.heap.size + 3]? = some o3 ∧
    (((((((w.alloc o0).alloc o1).alloc o2).alloc o3).alloc o4).alloc o5).alloc o6).heap[w.heap.size + 4]? = some o4 ∧
    (((((((w.alloc o0).alloc o1).alloc o2).alloc o3).alloc o4).alloc o5).alloc o6).heap[w.heap.size + 5]? = some o5 ∧
    (((((((w.alloc o0).alloc o1).alloc o2).alloc o3).alloc o4).alloc o5).alloc o6).heap[w.heap.size + 6]? = some o6 ∧
    Ext w (((((((w.alloc o0).alloc o1).alloc o2).alloc o3).alloc o4).alloc o5).alloc o6) := by
  have e : ∀ (W : World) (o : Obj), (W.alloc o).heap.size = W.heap.size + 1 := fun W o => World.size_alloc W o
  refine ⟨by simp, ?_, ?_, ?_, ?_, ?_, ?_, ?_, (((((((Ext.refl w).alloc _).alloc _).alloc _).alloc _).alloc _).alloc _).alloc _⟩
  · exact blk_old (blk_old (blk_old (blk_old (blk_old (blk_old (blk_new w o0))))))
  · have h := blk_new (w.alloc o0) o1
    simp only [World.size_alloc] at h
    exact blk_old (blk_old (blk_old (blk_old (blk_old h))))
  · have h := blk_new ((w.alloc o0).alloc o1) o2
    simp only [World.size_alloc] at h
    exact blk_old (blk_old (blk_old (blk_old h)))
  · have h := blk_new (((w.alloc o0).alloc o1).alloc o2) o3
    simp only [World.size_alloc] at h
    exact blk_old (blk_old (blk_old h))
  · have h := blk_new ((((w.alloc o0).alloc o1).alloc o2).alloc o3) o4
    simp only [World.size_alloc] at h
    exact blk_old (blk_old h)
  · have h := blk_new (((((w.alloc o0).alloc o1).alloc o2).alloc o3).alloc o4) o5
    simp only [World.size_alloc] at h
    exact blk_old h
  · have h := blk_new ((((((w.alloc o0).alloc o1).alloc o2).alloc o3).alloc o4).alloc o5) o6
    simp only [World.size_alloc] at h
    exact h
/-- The blocks of the script's runner. -/
def Ov (y : Nat) (v : Value) : Nat → Prop := fun q => (y < q ∧ q ≤ y + 8) ∨ v.ownBlock = some q
/-- Between two lines. -/
def Iv (B y : Nat) (outs : List (List UInt8)) (S : Nat → (Nat → Prop) → (Nat → Prop) → World → Prop) (w : World) (k : Nat) (W : World) : Prop :=
  ∃ v T, W.heap[y + 1]? = some (.cells #[BX y] 116 (0, 0)) ∧ BAt B W (y + 2) v (toldL (outs.take k)) ∧ W.heap[y + 3]? = some (.cells #[.int .i64 k] 3 (0, 0)) ∧ S k (Ov y v) T W ∧ (∀ q, T q → B ≤ q) ∧ (∀ q, v.ownBlock = some q → y + 9 ≤ q) ∧ Ext w W ∧ y + 9 ≤ W.heap.size
theorem bat_keep {B : Nat} {w w' : World} {b : Nat} {v : Value} {l : List UInt8} {G : Nat → Prop} (h : BAt B w b v l) (k : Keep G w w') (hb : ¬ G b) (hv : ∀ q, v.ownBlock = some q → ¬ G q) : BAt B w' b v l := by
  obtain ⟨h1, ⟨p, hp, h2⟩, h3, h4⟩ := h
  exact ⟨h1, ⟨p, hp, k.blk hb h2⟩, raw_keep h3 (fun g hg => k.block g (h3.lt g hg).2 (hv g hg)), h4⟩
theorem iv_keep {B y : Nat} {outs : List (List UInt8)} {ws : List (List ByteArray)} {S : Nat → (Nat → Prop) → (Nat → Prop) → World → Prop} {w : World} {k : Nat} {W W' : World} (hD : Desk y outs ws S) (hBy : B ≤ y) (hwB : w.heap.size ≤ B) (l : Nat) (h1 : y + 4 ≤ l) (h2 : l ≤ y + 8) (h : Iv B y outs S w k W) (K : Keep (fun q => q = l) W W') : Iv B y outs S w k W' := by
  obtain ⟨v, T, a1, a2, a3, a4, a5, a6, a7, a8⟩ := h
  exact ⟨v, T, K.blk (by omega) a1, bat_keep a2 K (by omega) (fun q hq e => by have := a6 q hq; omega), K.blk (by omega) a3, hD.keep _ _ _ _ _ a4 (K.mono (fun q _ e => by subst e; exact .inl ⟨by omega, h2⟩)), a5, a6, a7.keepNew K (fun q e => by omega), Nat.le_trans a8 K.size⟩
theorem keep_put (W : World) (l : Nat) (o : Obj) : Keep (fun q => q = l) W (W.putObj l o) := ⟨rfl, rfl, rfl, by simp [World.putObj], fun k _ hk => World.putObj_heap_other hk⟩
theorem runC (src : List UInt8) (hsz : src.length ≤ 1000000000) (outs : List (List UInt8)) (ws : List (List ByteArray)) (hol : outs.length = (linesL src).length) (hwl : ws.length = (linesL src).length) (hN : (linesL src).length < 400)
    (hw : ∀ k (h : k < (linesL src).length) (h2 : k < ws.length), (wds (linesL src)[k]).map BA = ws[k] ∧ NoMark (wds (linesL src)[k]) ∧ ws[k].length ≤ 1000 ∧ 1 ≤ ws[k].length ∧ (linesL src)[k].length ≤ 1000000) (hout : (toldL outs).length ≤ 1000000000) (w : World)
    (hS : ∀ (W : World) (db dg mg : Nat) (O : Nat → Prop), Ext w W → DiskAt (fun q => O q ∨ q = db) W dg mg ⟨1048576, 0, 0, [], [], true⟩ → W.heap[db]? = some (.cells #[BX dg, .pointer none, .slice none 0 0, .int .i64 0, .int .i64 0, .int .i64 0] 118 (0, 0)) → w.heap.size ≤ db → w.heap.size ≤ dg → w.heap.size ≤ mg → ¬ O db → (∀ q, O q → q < W.heap.size) →
      ∃ S T, Desk db outs ws S ∧ S 0 O T W ∧ ∀ q, T q → w.heap.size ≤ q) :
    Calls Tryz.prog 20 #[.string (BA src)] w fun e w' => e = .returned (.string (BA (toldL outs))) ∧ Ext w w' := by
  refine (callsIn_wide (n := 3)).1 ?_
  refine callsIn_of_wp_marks Tryz.func20 rfl trivial ?_ rfl
  simp only [Tryz.ntmps20, List.size_toArray, List.length_cons, List.length_nil, Nat.reduceAdd, Nat.reduceSub, Array.replicate_succ, Array.replicate_zero, List.push_toArray, List.append_toArray, List.nil_append, List.cons_append]
  have HNEW := As.mk (newC (fun _ => False) 1048576 (by decide) w (fun _ q => q.elim))
  gi_wp2_with (first | (refine ⟨trivial, ?_⟩; gi_at_call 26; refine (callsIn_wide.2 HNEW.out).mono ?_; rintro e w1 ⟨dg, mg, rfl, hdg, hmg, hD1, hE1⟩) | (gi_at_call 26; refine (callsIn_wide.2 HNEW.out).mono ?_; rintro e w1 ⟨dg, mg, rfl, hdg, hmg, hD1, hE1⟩) | (refine ⟨trivial, ?_⟩; gi_at_call 44; refine (callsIn_wide.2 (splitSeqC (BA src) _)).mono ?_; rintro e w2 ⟨rfl, rfl⟩) | (gi_at_call 44; refine (callsIn_wide.2 (splitSeqC (BA src) _)).mono ?_; rintro e w2 ⟨rfl, rfl⟩))
  obtain ⟨s7, z0, z1, z2, z3, z4, z5, z6, hE17⟩ := alloc7 w1 (.cells #[BX dg, .pointer none, .slice none 0 0, .int .i64 0, .int .i64 0, .int .i64 0] 118) (.cells #[BX w1.heap.size] 116) (.cells #[.pointer none, .slice none 0 0] 122) (.cells #[.int .i64 0] 3) (.cells #[.string (BA src)] 9) (.cells #[.string ⟨#[10]⟩] 9) (.cells #[.int .i64 0] 3)
  obtain ⟨W2, hW2⟩ : ∃ W2, ((((((w1.alloc (.cells #[BX dg, .pointer none, .slice none 0 0, .int .i64 0, .int .i64 0, .int .i64 0] 118)).alloc (.cells #[BX w1.heap.size] 116)).alloc (.cells #[.pointer none, .slice none 0 0] 122)).alloc (.cells #[.int .i64 0] 3)).alloc (.cells #[.string (BA src)] 9)).alloc (.cells #[.string ⟨#[10]⟩] 9)).alloc (.cells #[.int .i64 0] 3) = W2 := ⟨_, rfl⟩
  rw [hW2] at s7 z0 z1 z2 z3 z4 z5 z6 hE17
  have hy := hE1.size
  obtain ⟨y, hyy⟩ : ∃ y, w1.heap.size = y := ⟨_, rfl⟩
  have hD2 := disk_narrow (G := fun q => (fun q => y < q ∧ q ≤ y + 6) q ∨ q = y) hD1 (fun k hk q => q.elim (fun q => by dsimp only at q; omega) (fun q => by omega))
  rw [hyy] at s7 z0 z1 z2 z3 z4 z5 z6 hy
  obtain ⟨S, T, hDk, hS0, hT0⟩ := hS W2 y dg mg (fun q => y < q ∧ q ≤ y + 6) (hE1.trans hE17) (hD2.ext hE17) z0 (by omega) hdg hmg (by omega) (fun q h => by omega)
  have hy2 : W2.heap.size = y + 7 := s7
  have HOUT := As.mk hout
  have HS := As.mk hy2
  have e1 : w1.heap.size + 1 = y + 1 := by rw [hyy]
  simp only [hyy, Nat.add_assoc, Nat.reduceAdd] at hW2 ⊢
  rw [hW2]
  refine rangeLines (y + 5) (y + 4) (y + 6) (by omega) (by omega) (by omega) (by omega) (by omega) rfl src hsz z5 z4 z6 (Iv w.heap.size y outs S w) ?_ ?_ ?_ (fun k a' => ∀ hk : k < (linesL src).length, a' = ⟨(fun x => #[.string (BA src), undef, .string ⟨#[]⟩, .pointer (some ⟨y + 1, 0, none⟩), .pointer (some ⟨y + 2, 0, none⟩), .pointer (some ⟨y + 3, 0, none⟩), .string x, undef, .pointer (some ⟨dg, 0, none⟩), .agg #[.pointer (some ⟨dg, 0, none⟩), .pointer none, .slice none 0 0, .int .i64 0, .int .i64 0, .int .i64 0], .pointer (some ⟨y, 0, none⟩), .string (BA src), .func (.func 178) #[] #[.pointer (some ⟨y + 5, 0, none⟩), .pointer (some ⟨y + 4, 0, none⟩), .pointer (some ⟨y + 6, 0, none⟩)], .string x, undef, undef, undef, undef, undef, undef, undef, undef, undef, undef, undef, undef, undef, undef, undef]) (BA (linesL src)[k]), []⟩) ?_ ?_ ?_
  · intro r
    have hEa := ((Ext.refl W2).alloc (.deferred (some []))).alloc (.loop r)
    refine ⟨.slice none 0 0, T, hEa.blk z1, ⟨by omega, ⟨_, .inl rfl, hEa.blk z2⟩, World.ownsRow_nil _ _ _ _, fun e => by cases e⟩, hEa.blk z3, ?_, hT0, fun q e => (by cases e), (hE1.trans hE17).trans hEa, by simp [World.size_alloc]; omega⟩
    exact hDk.keep _ _ _ _ _ (hDk.narrow _ _ (Ov y (.slice none 0 0)) _ _ hS0 (fun q hq h => h.elim (fun h => ⟨h.1, by omega⟩) (fun h => by cases h))) (hEa.keep _)
  · intro k W l o h1 h2 hI
    exact iv_keep hDk (by omega) (by omega) l (by omega) (by omega) hI (keep_put W l o)
  · intro k W v hI
    exact iv_keep hDk (by omega) (by omega) (y + 4) (by omega) (by omega) hI (keep_set1 W (y + 4) 0 v)
  · intro l k hk W K hK
    gi_wp2
  · intro k hk a' W hI hax hB0
    rw [hax hk]
    dsimp only
    clear hax
    obtain ⟨v, T, a1, a2, a3, a4, a5, a6, a7, a8⟩ := hI
    obtain ⟨x, hx⟩ : ∃ x, (linesL src)[k] = x := ⟨_, rfl⟩
    have hkw : k < ws.length := by omega
    obtain ⟨w1', w2', w3', w4', w5'⟩ := hw k hk hkw
    rw [hx] at w1' w2' w5'
    rw [hx]
    have hOl : ∀ q, Ov y v q → q < W.heap.size := fun q h => h.elim (fun h => by omega) (fun h => (a2.2.2.1.lt q h).2)
    have hT := hDk.own _ _ _ _ a4
    have hFl : ∀ q, (Ov y v q ∨ T q) → q < W.heap.size := fun q h => h.elim (hOl q) (fun h => (hT q h).1)
    have HW := As.mk (wordsC (fun q => Ov y v q ∨ T q) (BA x) (by show x.length ≤ _; omega) W w2' (by rw [← List.length_map (f := BA), w1']; omega))
    (have p0 := blk_cell (a1) 0; have pf0 := blk_froz (a1) 0)
    (have r0 := blk_cell (a3) 0; have rf0 := blk_froz (a3) 0)
    have A3 := a3
    have A1 := a1
    clear a1 a3
    gi_wp2_with (refine ⟨trivial, ?_⟩; gi_at_call 45; refine (CallsIn.inRound _ (callsIn_wide.2 HW.out)).mono ?_; rintro e W3 ⟨vw, rfl, hownw, hE3⟩; obtain ⟨Aw, cw, rfl, hslw⟩ := hownw.shut hFl; rw [w1'] at hslw; have P3 := hE3.cell p0; have R3 := hE3.cell r0)
    have hko : k < outs.length := by omega
    have hS3 := hDk.keep _ _ _ _ _ a4 (hE3.keep _)
    have hTO : ∀ q, T q → ¬ Ov y v q := fun q h => (hT q h).2
    have hl3 := hDk.line k hkw hko (Ov y v) T W3 Aw cw hS3 (fun q h => Nat.lt_of_lt_of_le (hOl q h) hE3.size) hslw
    have hny : ∀ q, y < q → q ≤ y + 8 → ¬ T q := fun q h1 h2 h => hTO q h (.inl ⟨h1, h2⟩)
    have b3 := bat_keep a2 (hE3.keep (fun _ => False)) (fun q => q) (fun _ _ q => q)
    obtain ⟨o, ho⟩ : ∃ o, outs[k] = o := ⟨_, rfl⟩
    have hout4 : (toldL (outs.take k)).length + (o.length + 1) ≤ 1000000000 := by
      have e : toldL outs = toldL (outs.take k) ++ ((o ++ [10]) ++ toldL (outs.drop (k + 1))) := by
        have e0 : outs = outs.take k ++ outs[k] :: outs.drop (k + 1) := by rw [← List.drop_eq_getElem_cons hko, List.take_append_drop]
        refine (congrArg toldL e0).trans ?_
        rw [← ho]
        simp only [toldL, List.map_append, List.map_cons, List.flatten_append, List.flatten_cons]
      have := HOUT.out
      rw [e] at this
      simp only [List.length_append, List.length_cons, List.length_nil] at this
      omega
    have htk : toldL (outs.take (k + 1)) = toldL (outs.take k) ++ (o ++ [10]) := by
      rw [List.take_add_one, List.getElem?_eq_getElem hko, ho]; simp [toldL]
    rw [ho] at hl3
    refine ⟨trivial, ?_⟩
    refine (CallsIn.inRound _ (callsIn_wide.2 hl3)).mono ?_; rintro e W4 ⟨rfl, T', hS4, K4, hT4⟩
    have b4 := bat_keep b3 K4 (hny _ (by omega) (by omega)) (fun q hq h => hTO q h (.inr hq))
    have P4 := K4.cell (a := ⟨y + 1, 0, none⟩) (hny (y + 1) (by omega) (by omega)) P3
    have R4 := K4.cell (a := ⟨y + 3, 0, none⟩) (hny (y + 3) (by omega) (by omega)) R3
    have hw4 : w.heap.size ≤ W4.heap.size := by have := a7.size; have := hE3.size; have := K4.size; omega
    have HWR := As.mk (writeC w.heap.size (y + 2) v (toldL (outs.take k)) (BA o ++ ⟨#[10]⟩) W4 b4 (by show _ + (BA o ++ ⟨#[10]⟩ : ByteArray).size ≤ _; rw [ByteArray.size_append]; show _ + (o.length + 1) ≤ _; omega) hw4)
    clear hl3
    gi_wp2_with (refine ⟨trivial, ?_⟩; gi_at_call 46; refine (CallsIn.inRound _ (callsIn_wide.2 HWR.out)).mono ?_; rintro e W5 ⟨⟨rr, rfl⟩, v5, hB5, hv5, K5⟩; have n5 : ¬ (y + 3 = y + 2 ∨ v.ownBlock = some (y + 3)) := (fun h => h.elim (fun h => by omega) (fun h => by have := a6 _ h; omega)); have hb5 := K5.blk n5 (K4.blk (hny (y + 3) (by omega) (by omega)) (hE3.blk A3)); (have u0 := blk_cell (hb5) 0; have uf0 := blk_froz (hb5) 0))
    have K6 := keep_set1 W5 (y + 3) 0 (.int .i64 ((k : Int) + 1))
    have z34 := hE3.size
    have z45 := K4.size
    have z56 := K5.size
    have hsame : ∀ q, q < W.heap.size → ¬ T q → ¬ (q = y + 2 ∨ v.ownBlock = some q) → ¬ q = y + 3 → (W5.setCell ⟨y + 3, 0, none⟩ (.int .i64 ((k : Int) + 1))).heap[q]? = W.heap[q]? := fun q h1 h2 h3 h4 =>
      (K6.block q (by omega) h4).trans ((K5.block q (by omega) h3).trans ((K4.block q (by omega) h2).trans (hE3.block h1)))
    have hvq : ∀ q, q ≤ y + 8 → ¬ v.ownBlock = some q := fun q h e => by have := a6 q e; omega
    have hfix : ∀ q, y + 3 < q → q ≤ y + 8 → (W5.setCell ⟨y + 3, 0, none⟩ (.int .i64 ((k : Int) + 1))).heap[q]? = W.heap[q]? := fun q h1 h2 =>
      hsame q (by omega) (hny q (by omega) h2) (fun h => h.elim (fun h => by omega) (hvq q h2)) (by omega)
    have e7 : W2.heap.size = y + 7 := HS.out
    refine ⟨⟨v5, T', ?_, ?_, ?_, ?_, ?_, ?_, ?_, ?_⟩, ?_, ?_, hfix _ (by omega) (by omega), hfix _ (by omega) (by omega), hfix _ (by omega) (by omega)⟩
    · rw [hsame (y + 1) (by omega) (hny _ (by omega) (by omega)) (fun h => h.elim (fun h => by omega) (hvq _ (by omega))) (by omega)]; exact A1
    · have hb6 := bat_keep hB5 K6 (by omega) (fun q hq e => by
        rcases hv5 q hq with h | h
        · exact hvq q (by omega) h
        · omega)
      rw [htk]
      have e8 : (BA o ++ ⟨#[10]⟩ : ByteArray).data.toList = o ++ [10] := by simp
      rw [e8] at hb6
      exact hb6
    · have := blk_set hb5 0 (.int .i64 ((k : Int) + 1))
      exact this
    · have s1 := hDk.narrow _ _ (fun q => Ov y v q ∨ W4.heap.size ≤ q) _ _ hS4 (fun q hq h => h.elim id (fun h => by omega))
      have s2 := hDk.keep _ _ _ _ _ s1 (K5.mono (fun q _ h => .inl (h.elim (fun h => .inl ⟨by omega, by omega⟩) .inr)))
      have s3 := hDk.keep _ _ _ _ _ s2 (K6.mono (fun q _ h => .inl (.inl ⟨by omega, by omega⟩)))
      exact hDk.narrow _ _ (Ov y v5) _ _ s3 (fun q hq h => h.elim (fun h => .inl (.inl h)) (fun h => (hv5 q h).elim (fun h => .inl (.inr h)) .inr))
    · intro q h
      rcases hT4 q h with h | h
      · exact a5 q h
      · have := a7.size; omega
    · intro q h
      rcases hv5 q h with h | h
      · exact a6 q h
      · omega
    · exact (((a7.trans hE3).keepNew K4 a5).keepNew K5 (fun q h => h.elim (fun h => by omega) (fun h => by have := a6 q h; omega))).keepNew K6 (fun q h => by omega)
    · have := K6.size; omega
    · rw [e7]; exact hfix _ (by omega) (by omega)
    · rw [e7]; exact hfix _ (by omega) (by omega)
  · intro W hI hKd
    obtain ⟨v, T, a1, a2, a3, a4, a5, a6, a7, a8⟩ := hI
    rw [← hol, List.take_length] at a2
    have HST := As.mk (stringC w.heap.size (y + 2) v (toldL outs) W a2 a7.size)
    clear a1 a3
    gi_wp2_with (refine ⟨trivial, ?_⟩; gi_at_call 48; refine (callsIn_wide.2 HST.out).mono ?_; rintro e W5 ⟨rfl, hBl, hdf⟩)
    have e7 : W2.heap.size = y + 7 := HS.out
    have hK5 := hdf _ _ hKd
    rw [e7] at hK5
    refine ⟨by simp, .inl ⟨_, _, rfl, run_takeDeferred hK5, ?_⟩⟩
    have hE5 : Ext w W5 := Below.trans a7 hBl
    exact ⟨_, results_tmp rfl _ _ _, rfl, hE5.keepNew (keep_put W5 (y + 7) _) (fun q h => by omega)⟩
end K101
end Go.Proofs.YtbjeejimedhniaaGreatDoor
namespace Go.Proofs
open Go.Shelf
def Tryz.laysC174_ren : Go.Shelf.Ren := ⟨fun | 174 => 269 | 247 => 329 | 245 => 330 | 287 => 331 | 279 => 359 | 280 => 360 | 281 => 361 | 282 => 362 | 321 => 363 | 322 => 364 | 316 => 396 | 171 => 126 | 205 => 397 | 243 => 227 | 246 => 305 | 283 => 342 | 284 => 343 | 285 => 344 | 286 => 345 | 129 => 318 | 317 => 368 | 318 => 369 | 319 => 370 | 320 => 371 | 337 => 399 | 338 => 400 | n => n, fun | 9 => 9 | 3 => 3 | 2 => 2 | 75 => 129 | 85 => 351 | 4 => 4 | 167 => 420 | 5 => 5 | 53 => 115 | 175 => 353 | 46 => 347 | 168 => 421 | 37 => 120 | 0 => 0 | 210 => 451 | 21 => 21 | 127 => 191 | 145 => 469 | 143 => 467 | 171 => 402 | 173 => 404 | 212 => 427 | 51 => 23 | 20 => 20 | 213 => 428 | 232 => 470 | 233 => 471 | 80 => 133 | n => n, fun | 15 => 4 | 16 => 5 | 17 => 3 | 18 => 6 | 19 => 7 | n => n⟩
theorem Tryz.laysC174 : Go.Proofs.LaysC.n174 Tryz.prog Tryz.laysC174_ren := {
  mixed := by kernel_rfl
  f129 := Tryz.func318.trans (congrArg some (by kernel_rfl))
  f171 := Tryz.func126.trans (congrArg some (by kernel_rfl))
  f174 := Tryz.func269.trans (congrArg some (by kernel_rfl))
  f205 := Tryz.func397.trans (congrArg some (by kernel_rfl))
  f243 := Tryz.func227.trans (congrArg some (by kernel_rfl))
  f245 := Tryz.func330.trans (congrArg some (by kernel_rfl))
  f246 := Tryz.func305.trans (congrArg some (by kernel_rfl))
  f247 := Tryz.func329.trans (congrArg some (by kernel_rfl))
  f279 := Tryz.func359.trans (congrArg some (by kernel_rfl))
  f280 := Tryz.func360.trans (congrArg some (by kernel_rfl))
  f281 := Tryz.func361.trans (congrArg some (by kernel_rfl))
  f282 := Tryz.func362.trans (congrArg some (by kernel_rfl))
  f283 := Tryz.func342.trans (congrArg some (by kernel_rfl))
  f284 := Tryz.func343.trans (congrArg some (by kernel_rfl))
  f285 := Tryz.func344.trans (congrArg some (by kernel_rfl))
  f286 := Tryz.func345.trans (congrArg some (by kernel_rfl))
  f287 := Tryz.func331.trans (congrArg some (by kernel_rfl))
  f316 := Tryz.func396.trans (congrArg some (by kernel_rfl))
  f317 := Tryz.func368.trans (congrArg some (by kernel_rfl))
  f318 := Tryz.func369.trans (congrArg some (by kernel_rfl))
  f319 := Tryz.func370.trans (congrArg some (by kernel_rfl))
  f320 := Tryz.func371.trans (congrArg some (by kernel_rfl))
  f321 := Tryz.func363.trans (congrArg some (by kernel_rfl))
  f322 := Tryz.func364.trans (congrArg some (by kernel_rfl))
  f337 := Tryz.func399.trans (congrArg some (by kernel_rfl))
  f338 := Tryz.func400.trans (congrArg some (by kernel_rfl))
  t0 := Tryz.underlying0
  a0 := Tryz.isAgg0
  z0 := Tryz.sizeOf0
  v0 := Tryz.zeroValue0
  t2 := Tryz.underlying2
  a2 := Tryz.isAgg2
  z2 := Tryz.sizeOf2
  v2 := Tryz.zeroValue2
  t3 := Tryz.underlying3
  a3 := Tryz.isAgg3
  z3 := Tryz.sizeOf3
  v3 := Tryz.zeroValue3
  t4 := Tryz.underlying4
  a4 := Tryz.isAgg4
  z4 := Tryz.sizeOf4
  v4 := Tryz.zeroValue4
  t5 := Tryz.underlying5
  a5 := Tryz.isAgg5
  z5 := Tryz.sizeOf5
  v5 := Tryz.zeroValue5
  t9 := Tryz.underlying9
  a9 := Tryz.isAgg9
  z9 := Tryz.sizeOf9
  v9 := Tryz.zeroValue9
  t20 := Tryz.underlying20
  a20 := Tryz.isAgg20
  z20 := Tryz.sizeOf20
  v20 := Tryz.zeroValue20
  t21 := Tryz.underlying21
  a21 := Tryz.isAgg21
  z21 := Tryz.sizeOf21
  v21 := Tryz.zeroValue21
  t37 := Tryz.underlying120
  a37 := Tryz.isAgg120
  z37 := Tryz.sizeOf120
  v37 := Tryz.zeroValue120
  t46 := Tryz.underlying347
  a46 := Tryz.isAgg347
  z46 := Tryz.sizeOf347
  v46 := Tryz.zeroValue347
  t51 := Tryz.underlying23
  a51 := Tryz.isAgg23
  z51 := Tryz.sizeOf23
  v51 := Tryz.zeroValue23
  t53 := Tryz.underlying115
  a53 := Tryz.isAgg115
  z53 := Tryz.sizeOf115
  v53 := Tryz.zeroValue115
  t75 := Tryz.underlying129
  a75 := Tryz.isAgg129
  z75 := Tryz.sizeOf129
  v75 := Tryz.zeroValue129
  t85 := Tryz.underlying351
  a85 := Tryz.isAgg351
  z85 := Tryz.sizeOf351
  v85 := Tryz.zeroValue351
  t127 := Tryz.underlying191
  a127 := Tryz.isAgg191
  z127 := Tryz.sizeOf191
  v127 := Tryz.zeroValue191
  t143 := Tryz.underlying467
  a143 := Tryz.isAgg467
  z143 := Tryz.sizeOf467
  v143 := Tryz.zeroValue467
  t145 := Tryz.underlying469
  a145 := Tryz.isAgg469
  z145 := Tryz.sizeOf469
  v145 := Tryz.zeroValue469
  t167 := Tryz.underlying420
  a167 := Tryz.isAgg420
  z167 := Tryz.sizeOf420
  v167 := Tryz.zeroValue420
  t168 := Tryz.underlying421
  a168 := Tryz.isAgg421
  z168 := Tryz.sizeOf421
  v168 := Tryz.zeroValue421
  t171 := Tryz.underlying402
  a171 := Tryz.isAgg402
  z171 := Tryz.sizeOf402
  v171 := Tryz.zeroValue402
  t173 := Tryz.underlying404
  a173 := Tryz.isAgg404
  z173 := Tryz.sizeOf404
  v173 := Tryz.zeroValue404
  t175 := Tryz.underlying353
  a175 := Tryz.isAgg353
  z175 := Tryz.sizeOf353
  v175 := Tryz.zeroValue353
  t210 := Tryz.underlying451
  a210 := Tryz.isAgg451
  z210 := Tryz.sizeOf451
  v210 := Tryz.zeroValue451
  t212 := Tryz.underlying427
  a212 := Tryz.isAgg427
  z212 := Tryz.sizeOf427
  v212 := Tryz.zeroValue427
  t213 := Tryz.underlying428
  a213 := Tryz.isAgg428
  z213 := Tryz.sizeOf428
  t232 := Tryz.underlying470
  a232 := Tryz.isAgg470
  z232 := Tryz.sizeOf470
  v232 := Tryz.zeroValue470
  t233 := Tryz.underlying471
  a233 := Tryz.isAgg471
  z233 := Tryz.sizeOf471
  v233 := Tryz.zeroValue471
  g15 := by kernel_rfl
  g16 := by kernel_rfl
  g17 := by kernel_rfl
  g18 := by kernel_rfl
  g19 := by kernel_rfl
  t80 := Tryz.underlying133
  a80 := Tryz.isAgg133
  z80 := Tryz.sizeOf133
  v80 := Tryz.zeroValue133
  i0 := by kernel_rfl
  i2 := by kernel_rfl
  i3 := by kernel_rfl
  i4 := by kernel_rfl
  i5 := by kernel_rfl
  i9 := by kernel_rfl
  i20 := by kernel_rfl
  i21 := by kernel_rfl
  i37 := by kernel_rfl
  i46 := by kernel_rfl
  i51 := by kernel_rfl
  i53 := by kernel_rfl
  i75 := by kernel_rfl
  i80 := by kernel_rfl
  i85 := by kernel_rfl
  i127 := by kernel_rfl
  i143 := by kernel_rfl
  i145 := by kernel_rfl
  i167 := by kernel_rfl
  i168 := by kernel_rfl
  i171 := by kernel_rfl
  i173 := by kernel_rfl
  i175 := by kernel_rfl
  i210 := by kernel_rfl
  i212 := by kernel_rfl
  i232 := by kernel_rfl
  i233 := by kernel_rfl
  m15 := by kernel_rfl
  m16 := by kernel_rfl
  m17 := by kernel_rfl
  m18 := by kernel_rfl
  m19 := by kernel_rfl
  c0 := by kernel_rfl
  c2 := by kernel_rfl
  c3 := by kernel_rfl
  c4 := by kernel_rfl
  c5 := by kernel_rfl
  c9 := by kernel_rfl
  c20 := by kernel_rfl
  c21 := by kernel_rfl
  c37 := by kernel_rfl
  c46 := by kernel_rfl
  c51 := by kernel_rfl
  c53 := by kernel_rfl
  c75 := by kernel_rfl
  c80 := by kernel_rfl
  c85 := by kernel_rfl
  c127 := by kernel_rfl
  c143 := by kernel_rfl
  c145 := by kernel_rfl
  c167 := by kernel_rfl
  c168 := by kernel_rfl
  c171 := by kernel_rfl
  c173 := by kernel_rfl
  c175 := by kernel_rfl
  c210 := by kernel_rfl
  c212 := by kernel_rfl
  c213 := by kernel_rfl
  c232 := by kernel_rfl
  c233 := by kernel_rfl }
open Go.RowKit in
theorem Tryz.strconv_ParseInt_10_at64_ok (s : ByteArray) (hmax : s.size ≤ 9223372036854775806) (v : Int) (h : Lib.parseIntB 64 s.data.toList = .ok v) (w : World) :
    Calls Tryz.prog 269 #[.string s, .int .i64 10, .int .i64 64] w fun e w' => e = .returned (.tuple #[.int .i64 v, .nilIface]) ∧ (w' = w ∨ ∃ t, w' = Lib.bytesWorld w 5 t) := Any.strconv_ParseInt_10_at64_ok Tryz.laysC174 s hmax v h w
end Go.Proofs
namespace Go.Proofs.YtbjeejimedhniaaGreatDoor
namespace K102
open Go Go.RowKit
open KB K2 K88 K89
set_option linter.unusedVariables false
set_option linter.unusedSimpArgs false
set_option maxHeartbeats 2000000
set_option maxRecDepth 100000
theorem bytesWorld_ext (w : World) (e : TypeId) (t : ByteArray) : Ext w (Lib.bytesWorld w e t) := by
  exact ⟨rfl, rfl, rfl, by rw [Lib.bytesWorld_size]; omega, fun k hk => Lib.bytesWorld_at_old w e t k hk⟩
theorem says_small (i : Nat) (hi : i < 10) (w : World) : Says w 1 (BA [UInt8.ofNat (48 + i)]) i := by
  have hd : Lib.decDigits i = [UInt8.ofNat (48 + i)] := by rw [Lib.decDigits, dif_pos hi]
  have hp : Lib.parseIntB 64 (BA [UInt8.ofNat (48 + i)]).data.toList = .ok (i : Int) := by
    have : ∀ j : Fin 10, Lib.parseIntB 64 [UInt8.ofNat (48 + j.val)] = .ok (j.val : Int) := by decide
    exact this ⟨i, hi⟩
  refine ⟨⟨by omega, by omega⟩, fun e => ?_, .inl ⟨rfl, fun W hW => ?_, fun W hW => ?_⟩⟩
  · have := congrArg ByteArray.size e
    simp [ByteArray.size] at this
  · refine (Tryz.strconv_ParseInt_10_at64_ok _ (by show 1 ≤ _; omega) _ hp W).mono ?_
    rintro e w' ⟨rfl, rfl | ⟨t, rfl⟩⟩
    · exact ⟨rfl, Ext.refl _⟩
    · exact ⟨rfl, bytesWorld_ext _ _ _⟩
  · refine (Tryz.strconv_FormatInt_10_small i (by omega) W).mono ?_
    rintro e w' ⟨rfl, rfl⟩
    exact ⟨by rw [hd], Ext.refl _⟩
end K102
namespace K76
open Go Go.RowKit Go.Maps Go.Shelf Go.Proofs
open KB KB2 K1 K7 K9 K24 K25 K31
set_option linter.unusedVariables false
set_option linter.unusedSimpArgs false
set_option maxHeartbeats 2000000
set_option maxRecDepth 100000
attribute [local go_sem] Oper.semAt_some
abbrev PX (g : Nat) : Value := .pointer (some ⟨g, 0, none⟩)
theorem vals0 (F : Fence) (n : Nat) (h10 : F.fn 317) (hro : F.round = none) (hn : 1 ≤ n) (Bm : Nat) (A : Option Addr) (c : Nat) (w : World) (hBm : Bm < w.heap.size) (hm : w.cell? ⟨Bm, 0, none⟩ = some (.slice A 0 c)) :
    SeqStopsK F n Tryz.prog 317 #[PX Bm] (fun z : Int => #[.int .i64 z]) KeepsWalks (fun ss => ss = []) (fun _ => True) 0 w := fun l J Jx W hW hJ _ hY h0 => by
  have hm' := (hW.cell (p := ⟨Bm, 0, none⟩) hBm).trans hm
  show CallsIn F n Tryz.prog 317 #[.func (.yield l) #[] #[], PX Bm] W _
  refine callsIn_of_wp Tryz.func317 rfl h10 ?_ hro
  simp only [Tryz.ntmps317, List.size_toArray, List.length_cons, List.length_nil, Nat.reduceAdd, Nat.reduceSub, Array.replicate_succ, Array.replicate_zero, List.push_toArray, List.append_toArray, List.nil_append, List.cons_append]
  gi_wp2
  gi_loopw [7] (fun i wr => i = .int .i64 0 ∧ wr = W) (fun _ _ => 0)
  case atStart => exact ⟨rfl, rfl⟩
  case round =>
    obtain ⟨rfl, rfl⟩ := hrel
    gi_wp2
    go_end0
    exact ⟨⟨_, rfl⟩, .inl ⟨[], rfl, h0⟩⟩
theorem infoI : (Tryz.prog.info? 3).map (fun i => (i.zero, i.size, i.bytes)) = some (some (.int .i64 0), 1, 8) := by kernel_rfl
theorem appendSeq0 (F : Fence) (n : Nat) (h3 : F.fn 350) (h10 : F.fn 317) (hro : F.round = none) (hn : 3 ≤ n) (Bm : Nat) (A : Option Addr) (c : Nat) (w : World) (hBm : Bm < w.heap.size) (hm : w.cell? ⟨Bm, 0, none⟩ = some (.slice A 0 c)) :
    CallsIn F n Tryz.prog 350 #[.slice none 0 0, .func (.func 317) #[] #[PX Bm]] w fun e W' => ∃ (v : Value), e = .returned v ∧ W'.ownsRow w.heap.size 3 1 v 0 [] ∧ Below w.heap.size w W' := by
  have h1 : 1 ≤ n := by omega
  obtain ⟨i0, hi, hz0, hz1, hz2⟩ := info_parts infoI
  refine callsIn_of_wp_marks Tryz.func350 rfl h3 ?_ hro
  simp only [Tryz.ntmps350, List.size_toArray, List.length_cons, List.length_nil, Nat.reduceAdd, Nat.reduceSub, Array.replicate_succ, Array.replicate_zero, List.push_toArray, List.append_toArray, List.nil_append, List.cons_append]
  gi_wp2
  have bO := Boxed.new w 25 (.slice none 0 0)
  have hB0 : Below w.heap.size w (w.alloc (.cells #[.slice none 0 0] 25)) := (Below.refl _ w).alloc (Nat.le_refl _) _
  refine wpIn_rangeFunc_ownH hro h1 (gf := 317) (lb := #[PX Bm]) rfl h10 (enters_of Tryz.func317 (by kernel_rfl) rfl)
    (vals0 F (n - 1) h10 hro (by omega) Bm A c _ (by simp; omega) ((hB0.cell (p := ⟨Bm, 0, none⟩) hBm).trans hm)) walksK_t walksK_b (Below.refl _ _) (fun _ => rfl)
    (fun pre W => (∃ v, Boxed W w.heap.size 25 v ∧ W.ownsRow w.heap.size 3 1 v pre.length (pre.map (Value.int .i64)) ∧ True) ∧ Below w.heap.size w W)
    (fun _ _ _ => False)
    (OwnFrom.and (Own.from (holdsRow_own w.heap.size w.heap.size 25 3 1 (fun pre : List Int => pre.length) (fun pre => pre.map (Value.int .i64)) (fun pre v => True)) _) (ownFrom_below (Nat.le_refl _) (by simp)))
    (fun _ _ _ _ _ hs _ _ => hs)
    ⟨⟨_, bO, World.ownsRow_nil _ _ _ _, trivial⟩, hB0⟩
    (fun x a' W => True)
    (fun x a' _ X Y row hs hg hr => trivial)
    ?assign ?body ?done ?stop
  case assign =>
    rintro l pre x W K ⟨⟨v, hv, hrow, _⟩, hB1⟩ hK
    gi_wp2
    exact hK _ _ ((KeepsOthers.refl _).from _) (KeepsWalks.refl _) ⟨⟨v, hv, hrow, trivial⟩, hB1⟩ trivial
  case body =>
    rintro l pre x a' W hl ⟨r, hr⟩ _ hf hlt
    exact absurd hlt (Nat.not_lt_zero _)
  case done =>
    rintro D ys W hD hS ⟨⟨v, hv, hrow, _⟩, hB⟩ hK
    have hc := hv.cell
    gi_wp2
    refine ⟨by simp, .inl ⟨_, _, rfl, run_takeDeferred hK, ?_⟩⟩
    subst hS
    exact ⟨_, results_tmp rfl _ _ _, v, rfl, ownsRow_putObj hrow _ hK rfl, hB.trans (belowK_b (w := w) (Nat.le_refl _) W D _ _ (by simp at hD; omega) hK rfl rfl)⟩
  case stop =>
    rintro D c pre W _ _ h _
    exact h.elim
theorem bitsLen0 (w : World) : Calls Tryz.prog 349 #[.int .u64 0] w fun e w' => e = .returned (.int .i64 0) ∧ w' = w := by
  go_enter Tryz.func349, Tryz.ntmps349
  go_wp2
  go_ret
  have h0 : (wrap64 (wrap64 (Lib.len8 0))) = 0 := by first | kernel_rfl | (simp [Lib.len8, wrap64]; done)
  exact ⟨by show Ending.returned (.int .i64 (wrap64 (wrap64 (Lib.len8 0)))) = _; rw [h0], rfl⟩
theorem ins0 (A : Option Addr) (c : Nat) (w : World) : Calls Tryz.prog 381 #[.slice A 0 c, .int .i64 0, .int .i64 0] w fun e w' => e = .returned (.tuple #[]) ∧ w' = w := by
  go_enter Tryz.func381, Tryz.ntmps381
  go_wp2_with (fail)
  refine wp_loop_rounds 1 ?_
  rw [rounds_succ]
  go_wp2
  go_returns
  exact ⟨rfl, rfl⟩
theorem pdq0 (A : Option Addr) (c : Nat) (w : World) : Calls Tryz.prog 351 #[.slice A 0 c, .int .i64 0, .int .i64 0, .int .i64 0] w fun e w' => e = .returned (.tuple #[]) ∧ w' = w := by
  go_enter Tryz.func351, Tryz.ntmps351
  go_wp2_with (fail)
  refine wp_loop_rounds 1 ?_
  rw [rounds_succ]
  go_wp2_with (fail)
  refine (ins0 A c w).mono ?_; rintro e w1 ⟨rfl, hw⟩; rw [hw]; clear hw
  go_wp2
  go_returns
  exact ⟨rfl, rfl⟩
theorem sort0 (A : Option Addr) (c : Nat) (w : World) : Calls Tryz.prog 316 #[.slice A 0 c] w fun e w' => e = .returned (.tuple #[]) ∧ w' = w := by
  go_enter Tryz.func316, Tryz.ntmps316
  go_wp2_with (fail)
  refine (bitsLen0 w).mono ?_; rintro e w1 ⟨rfl, hw⟩; rw [hw]; clear hw
  go_wp2_with (fail)
  refine (pdq0 A c w).mono ?_; rintro e w1 ⟨rfl, hw⟩; rw [hw]; clear hw
  go_wp2
  go_returns
  exact ⟨rfl, rfl⟩
theorem unlike0C (A : Option Addr) (c : Nat) (m : Int) (w : World) : Calls Tryz.prog 154 #[.slice A 0 c, .int .i64 m] w fun e w' => e = .returned (.bool true) ∧ Ext w w' := by
  obtain ⟨x, hx⟩ : ∃ x, w.heap.size = x := ⟨_, rfl⟩
  have B1 := blk_new w (.cells #[.slice A 0 c] 25)
  have hE1 := (Ext.refl w).alloc (.cells #[.slice A 0 c] 25)
  have hx1 : x < (w.alloc (.cells #[.slice A 0 c] 25)).heap.size := by simp [hx]
  have hv : Calls Tryz.prog 251 #[.slice A 0 c] w fun e w' => e = .returned (.func (.func 317) #[] #[PX x]) ∧ w' = w.alloc (.cells #[.slice A 0 c] 25) := by
    go_enter Tryz.func251, Tryz.ntmps251
    go_wp2
    go_ret
    exact ⟨rfl, rfl⟩
  rw [hx] at B1
  have ha := callsIn_wide.1 (appendSeq0 Fence.wide 9 trivial trivial rfl (by omega) x A c _ hx1 (blk_cell B1 0))
  go_enter Tryz.func154, Tryz.ntmps154
  go_wp2_with (fail)
  refine hv.mono ?_; rintro e w1 ⟨rfl, hw⟩; rw [hw]; clear hw
  generalize (w.alloc (.cells #[.slice A 0 c] 25)) = w2 at *
  have hs : Calls Tryz.prog 250 #[.func (.func 317) #[] #[PX x]] w2 fun e w' => ∃ A' c', e = .returned (.slice A' 0 c') ∧ c' ≤ maxLen ∧ (A' = none → c' = 0) ∧ Ext w2 w' := by
    have hcl : Calls Tryz.prog 315 #[.func (.func 317) #[] #[PX x]] w2 fun e w' => ∃ A' c', e = .returned (.slice A' 0 c') ∧ c' ≤ maxLen ∧ (A' = none → c' = 0) ∧ Ext w2 w' := by
      go_enter Tryz.func315, Tryz.ntmps315
      go_wp2_with (first | (go_at_call 350; refine ha.mono ?_; rintro e w1 ⟨v, rfl, ho, hE⟩))
      go_ret
      rcases ho.2 with ⟨rfl, _⟩ | ⟨g, cap, cur, rfl, _, _, _, h2, _⟩
      · exact ⟨none, 0, rfl, Nat.zero_le _, fun _ => rfl, hE⟩
      · exact ⟨_, cap, rfl, h2, (fun h => by cases h), hE⟩
    go_enter Tryz.func250, Tryz.ntmps250
    go_wp2_with (fail)
    refine hcl.mono ?_; rintro e w3 ⟨A3, c3, rfl, hc3, hn3, hE3⟩
    go_wp2_with (fail)
    refine (sort0 A3 c3 w3).mono ?_; rintro e w4 ⟨rfl, hw⟩; rw [hw]; clear hw
    go_wp2
    go_ret
    exact ⟨A3, c3, rfl, hc3, hn3, hE3⟩
  go_wp2_with (fail)
  refine hs.mono ?_; rintro e w3 ⟨A3, c3, rfl, hc3, hn3, hE3⟩
  go_wp2_with (fail)
  refine (cloneI (fun _ => False) A3 c3 [] w3 (Rd.Sl.nil _ _ _ hc3 hn3) (by simp) (fun _ h => h.elim)).mono ?_; rintro e w4 ⟨A4, c4, rfl, _, hE4⟩
  go_wp2
  go_ret
  exact ⟨rfl, (hE1.trans hE3).trans hE4⟩
end K76
namespace K77
open Go Go.RowKit
open KB KB2 KB3 K1 K6 K7 K8 K9 K22 K24 K25 K31 K76
set_option linter.unusedVariables false
set_option linter.unusedSimpArgs false
set_option maxHeartbeats 2000000
set_option maxRecDepth 100000
theorem applyHead0 (F : Nat → Prop) (A0 Ai0 : Option Addr) (c0 ci0 : Nat) (s0 : Sch) (ids0 : List Int) (next0 : Int) (A Ai : Option Addr) (c ci : Nat) (s : Sch) (hs : s.Ok) (id : Nat) (hid : id ≤ 999999) (w : World) (hA : SchAt F w A c s) (hi : (rdInt .i64).Sl F w Ai ci []) (hF : ∀ k, F k → k < w.heap.size) :
    Calls Tryz.prog 76 #[stV A0 c0 s0 Ai0 ci0 ids0 next0, recV 1 A c s Ai ci [] id] w fun e w' => ∃ Ai' ci', e = .returned (.tuple #[stV A c s Ai' ci' [] id, .bool true]) ∧ (rdInt .i64).Sl F w' Ai' ci' [] ∧ Ext w w' := by
  obtain ⟨x, hx⟩ : ∃ x, w.heap.size = x := ⟨_, rfl⟩
  have hE1 := (((Ext.refl w).alloc (.cells #[.slice A0 s0.types.length c0, .int .i64 s0.keys, .int .i64 s0.mode, .int .i64 s0.grain, .slice Ai0 ids0.length ci0, .int .i64 next0] 82)).alloc (.cells #[.int .i64 1, .slice A s.types.length c, .int .i64 s.keys, .int .i64 s.mode, .int .i64 s.grain, .slice Ai 0 ci, .int .i64 id] 92)).alloc (.cells #[.slice none 0 0, .int .i64 0, .int .i64 0, .int .i64 0, .slice none 0 0, .int .i64 0] 82)
  have B1 := blk_old (o' := .cells #[.slice none 0 0, .int .i64 0, .int .i64 0, .int .i64 0, .slice none 0 0, .int .i64 0] 82) (blk_old (o' := .cells #[.int .i64 1, .slice A s.types.length c, .int .i64 s.keys, .int .i64 s.mode, .int .i64 s.grain, .slice Ai 0 ci, .int .i64 id] 92) (blk_new w (.cells #[.slice A0 s0.types.length c0, .int .i64 s0.keys, .int .i64 s0.mode, .int .i64 s0.grain, .slice Ai0 ids0.length ci0, .int .i64 next0] 82)))
  have B2 := blk_old (o' := .cells #[.slice none 0 0, .int .i64 0, .int .i64 0, .int .i64 0, .slice none 0 0, .int .i64 0] 82) (blk_new (w.alloc (.cells #[.slice A0 s0.types.length c0, .int .i64 s0.keys, .int .i64 s0.mode, .int .i64 s0.grain, .slice Ai0 ids0.length ci0, .int .i64 next0] 82)) (.cells #[.int .i64 1, .slice A s.types.length c, .int .i64 s.keys, .int .i64 s.mode, .int .i64 s.grain, .slice Ai 0 ci, .int .i64 id] 92))
  have B3 := blk_new ((w.alloc (.cells #[.slice A0 s0.types.length c0, .int .i64 s0.keys, .int .i64 s0.mode, .int .i64 s0.grain, .slice Ai0 ids0.length ci0, .int .i64 next0] 82)).alloc (.cells #[.int .i64 1, .slice A s.types.length c, .int .i64 s.keys, .int .i64 s.mode, .int .i64 s.grain, .slice Ai 0 ci, .int .i64 id] 92)) (.cells #[.slice none 0 0, .int .i64 0, .int .i64 0, .int .i64 0, .slice none 0 0, .int .i64 0] 82)
  simp only [World.size_alloc, hx] at B1 B2 B3
  go_enter Tryz.func76, Tryz.ntmps76
  go_wp2_with (fail)
  generalize (((w.alloc (.cells #[.slice A0 s0.types.length c0, .int .i64 s0.keys, .int .i64 s0.mode, .int .i64 s0.grain, .slice Ai0 ids0.length ci0, .int .i64 next0] 82)).alloc (.cells #[.int .i64 1, .slice A s.types.length c, .int .i64 s.keys, .int .i64 s.mode, .int .i64 s.grain, .slice Ai 0 ci, .int .i64 id] 92)).alloc (.cells #[.slice none 0 0, .int .i64 0, .int .i64 0, .int .i64 0, .slice none 0 0, .int .i64 0] 82)) = w1 at *
  refine (putHeadC F A Ai c ci s [] id hid w1 (Rd.Sl.ext hA hE1) hs (hi.ext hE1) (by simp) (by simp) (FExt hF hE1)).mono ?_; rintro e w2 ⟨A2, c2, rfl, _, hE2⟩
  have hE12 := hE1.trans hE2
  replace B1 := hE2.blk B1
  replace B2 := hE2.blk B2
  replace B3 := hE2.blk B3
  have hxa := blk_lt B1
  have hxb := blk_lt B2
  have hxc := blk_lt B3
  have hw1 : IntKind.i64.wrap ((id : Int) + 1) = (id : Int) + 1 := by rw [IntKind.wrap_i64]; omega
  (have p0 := blk_cell (B1) 0; have p1 := blk_cell (B1) 1; have p2 := blk_cell (B1) 2; have p3 := blk_cell (B1) 3; have p4 := blk_cell (B1) 4; have p5 := blk_cell (B1) 5)
  (have q0 := blk_cell (B2) 0; have q1 := blk_cell (B2) 1; have q2 := blk_cell (B2) 2; have q3 := blk_cell (B2) 3; have q4 := blk_cell (B2) 4; have q5 := blk_cell (B2) 5; have q6 := blk_cell (B2) 6)
  go_wp2_with (fail)
  refine (unlike0C Ai ci id _).mono ?_; rintro e w3 ⟨rfl, hE3⟩
  have hE23 : Ext w2 w3 := ((Ext.refl w2).alloc _).trans hE3
  clear p0 p1 p2 p3 p4 p5 q0 q1 q2 q3 q4 q5 q6
  replace B2 := hE23.blk B2
  replace B3 := hE23.blk B3
  have hE13 := hE12.trans hE23
  have hxb3 := blk_lt B2
  (have q0 := blk_cell (B2) 0; have q1 := blk_cell (B2) 1; have q2 := blk_cell (B2) 2; have q3 := blk_cell (B2) 3; have q4 := blk_cell (B2) 4; have q5 := blk_cell (B2) 5; have q6 := blk_cell (B2) 6)
  go_wp2_with (fail)
  have hi3 := hi.ext hE13
  have hF3 := FExt hF hE13
  have hclo := fun W (hW : Ext w3 W) => cloneI F Ai ci [] W (hi3.ext hW) (by simp) (FExt hF3 hW)
  have nx : ¬ x + 1 = x + 1 + 1 := by omega
  have keep : ∀ w', Keep (fun k => k = x + 1 + 1) w3 w' → Keep (fun k => k = x + 1 + 1) w3 w' ∧ w'.cell? ⟨x + 1, 1, none⟩ = some (.slice A s.types.length c) ∧ w'.cell? ⟨x + 1, 2, none⟩ = some (.int .i64 s.keys) ∧ w'.cell? ⟨x + 1, 3, none⟩ = some (.int .i64 s.mode) ∧ w'.cell? ⟨x + 1, 4, none⟩ = some (.int .i64 s.grain) ∧ w'.cell? ⟨x + 1, 5, none⟩ = some (.slice Ai 0 ci) ∧ w'.cell? ⟨x + 1, 6, none⟩ = some (.int .i64 id) := fun w' h => ⟨h, h.cell nx q1, h.cell nx q2, h.cell nx q3, h.cell nx q4, h.cell nx q5, h.cell nx q6⟩
  clear q0 q1 q2 q3 q4 q5 q6
  go_region_held3 (fun w' => Keep (fun k => k = x + 1 + 1) w3 w' ∧ w'.cell? ⟨x + 1, 1, none⟩ = some (.slice A s.types.length c) ∧ w'.cell? ⟨x + 1, 2, none⟩ = some (.int .i64 s.keys) ∧ w'.cell? ⟨x + 1, 3, none⟩ = some (.int .i64 s.mode) ∧ w'.cell? ⟨x + 1, 4, none⟩ = some (.int .i64 s.grain) ∧ w'.cell? ⟨x + 1, 5, none⟩ = some (.slice Ai 0 ci) ∧ w'.cell? ⟨x + 1, 6, none⟩ = some (.int .i64 id)) (((try dsimp only); refine keep _ ?_; first | with_reducible assumption | exact (Ext.keep (w := w3) (by (repeat (first | with_reducible refine Ext.drew ?_ | with_reducible refine Ext.drewN ?_ _ | with_reducible refine Ext.alloc ?_ _)); first | with_reducible assumption | with_reducible exact Ext.refl _) _) | exact (hx4.keep _).trans (((((keep_set1 _ _ _ _).trans (keep_set1 _ _ _ _)).trans (keep_set1 _ _ _ _)).trans (keep_set1 _ _ _ _)).trans ((keep_set1 _ _ _ _).trans (keep_set1 _ _ _ _))))) (first | (go_at_call 37; with_reducible refine Calls.mono (hclo _ ?_) ?_; exact (by (repeat (first | with_reducible refine Ext.drew ?_ | with_reducible refine Ext.drewN ?_ _ | with_reducible refine Ext.alloc ?_ _)); first | with_reducible assumption | with_reducible exact Ext.refl _); rintro e w4 ⟨A4, c4, rfl, hs4, hE4⟩; have hx4 := Ext.trans (a := w3) (by (repeat (first | with_reducible refine Ext.drew ?_ | with_reducible refine Ext.drewN ?_ _ | with_reducible refine Ext.alloc ?_ _)); first | with_reducible assumption | with_reducible exact Ext.refl _) hE4; (have z0 := blk_cell (hx4.blk B3) 0; have zf0 := blk_froz (hx4.blk B3) 0; have z1 := blk_cell (hx4.blk B3) 1; have zf1 := blk_froz (hx4.blk B3) 1; have z2 := blk_cell (hx4.blk B3) 2; have zf2 := blk_froz (hx4.blk B3) 2; have z3 := blk_cell (hx4.blk B3) 3; have zf3 := blk_froz (hx4.blk B3) 3; have z4 := blk_cell (hx4.blk B3) 4; have zf4 := blk_froz (hx4.blk B3) 4; have z5 := blk_cell (hx4.blk B3) 5; have zf5 := blk_froz (hx4.blk B3) 5)))
  all_goals
    (try simp only [Exit.inBlock, Exit.then])
    go_wp2_with (fail)
    have P := put6 (hx4.blk B3) (.slice A s.types.length c) (.int .i64 s.keys) (.int .i64 s.mode) (.int .i64 s.grain) (.slice A4 0 c4) (.int .i64 id)
    (have e0 := blk_cell (P.1) 0; have e1 := blk_cell (P.1) 1; have e2 := blk_cell (P.1) 2; have e3 := blk_cell (P.1) 3; have e4 := blk_cell (P.1) 4; have e5 := blk_cell (P.1) 5)
    (try simp only [Exit.inBlock, Exit.then])
    refine bodyPost_ret (v := .tuple #[stV A c s A4 c4 [] id, .bool true]) (by simp [results, Tryz.results76, go_sem, e0, e1, e2, e3, e4, e5]) rfl ?_
    refine ⟨A4, c4, rfl, Rd.Sl.nil _ _ _ hs4.max hs4.nil_, ?_⟩
    first | exact (hE13.trans hx4).keepNew P.2 (fun i q => by omega) | exact ((hE13.trans hx4).keepNew P.2 (fun i q => by omega)).drew
/-- Records of parts that came, one behind the other. -/
def adds (n : Nat) : List Int := ((List.range n).map recAdd).flatten
theorem adds_succ (n : Nat) : adds (n + 1) = adds n ++ recAdd n := by simp [adds, List.range_succ]
def idsTo (n : Nat) : List Int := (List.range n).map (fun (k : Nat) => (k : Int))
theorem idsTo_succ (n : Nat) : idsTo (n + 1) = idsTo n ++ [(n : Int)] := by simp [idsTo, List.range_succ]
theorem idsTo_len (n : Nat) : (idsTo n).length = n := by simp [idsTo]
end K77
end Go.Proofs.YtbjeejimedhniaaGreatDoor
