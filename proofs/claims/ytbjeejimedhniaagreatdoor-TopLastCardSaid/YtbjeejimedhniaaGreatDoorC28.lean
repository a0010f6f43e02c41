/- Contracts of the program's functions, as the walks of the law use them. -/
import Derived.Test.YtbjeejimedhniaaGreatDoorC27
import Derived.Test.YtbjeejimedhniaaGreatDoorC20
namespace Go.Proofs.YtbjeejimedhniaaGreatDoor
namespace P11
open Go Go.RowKit
open KB KB2 P2 K1 K2 K3 K17 P5 P6 P8 P9 K25 K35 K38 K42 K54 K55 K56 K57 K58 K31 K65 K70 K71 K72 K75 K77 K81 K87 K88 K89 K91 K92 K93 K94 K95 K97 K5 P3 P4 P7 P10 K67 K68 K85 K104 K105
set_option linter.unusedVariables false
set_option linter.unusedSimpArgs false
structure TN (s : Sch) (St : StM) (lg : List Int) (k : Nat) : Prop where
  sch : St.s = s
  len : St.ids.length = St.parts.length
  holds : Holds St.D s lg (St.ids.zip St.parts) St.ids
  room : Room St.D k 4000
  nx : ∀ n ∈ St.ids, 0 ≤ n ∧ n < St.next
  lgl : lg.length ≤ 50 * St.next + 200
  nk : St.next ≤ k
  nd : St.ids.Nodup
theorem tn_of {s : Sch} {St : StM} {lg : List Int} {k : Nat} (h : Tabl s St lg k) (hp : St.parts = []) (hl : lg.length ≤ 200) : TN s St lg k :=
  ⟨h.sch, h.len, h.holds, h.room, h.nx, by omega, h.nk, by
    have := h.len
    rw [hp] at this
    rw [List.eq_nil_of_length_eq_zero this]; exact .nil⟩
theorem tn_ins {s : Sch} {St : StM} {lg : List Int} {k : Nat} (h : TN s St lg k) (hk : St.next < 70) (l : List Row) (hb : (partB s (sortS s l)).length ≤ 4000) (li : Nat) (hli : getA logS St.D.M = some li) : TN s (insSt St l li lg) (lg ++ recAdd St.next) (k + 1) := by
  have hnk := h.nk
  have hrl : (recAdd St.next).length = 7 := recAdd_len _ (by omega)
  have hnot : (St.next : Int) ∉ St.ids := fun e => by have := h.nx _ e; omega
  have hlg := h.lgl
  obtain ⟨h1, h2, h3, h4, h5, h6, h8, h9⟩ := h
  subst h1
  refine ⟨rfl, ?_, ?_, ?_, ?_, ?_, ?_, ?_⟩
  · show (St.ids ++ [(St.next : Int)]).length = (St.parts ++ [_]).length
    rw [List.length_append, List.length_append, h2]; rfl
  · show Holds (wroteD _ _ _ _ _) _ _ ((St.ids ++ [(St.next : Int)]).zip (St.parts ++ [sortS St.s l])) (St.ids ++ [(St.next : Int)])
    rw [zip_snoc _ _ h2]
    exact h3.wrote St.next (by omega) hnot _ li hli _
  · refine h4.wrote _ _ _ _ hb ?_
    rw [List.length_append, hrl]; omega
  · intro n hn
    rcases List.mem_append.1 hn with e | e
    · have := h5 n e
      show 0 ≤ n ∧ n < ((St.next + 1 : Nat) : Int)
      omega
    · simp at e
      show 0 ≤ n ∧ n < ((St.next + 1 : Nat) : Int)
      omega
  · show (lg ++ recAdd St.next).length ≤ 50 * (St.next + 1) + 200
    rw [List.length_append, hrl]; omega
  · show St.next + 1 ≤ k + 1
    omega
  · show (St.ids ++ [(St.next : Int)]).Nodup
    rw [List.nodup_append]
    exact ⟨h9, List.pairwise_singleton _ _, fun a ha b hb e => by rw [List.mem_singleton.1 hb] at e; exact hnot (e ▸ ha)⟩
/-- The files that are removed one by one: each is there, and the rest holds. -/
theorem rm_holds {s : Sch} {lg : List Int} {ps : List (Int × List Row)} : ∀ (rl : List Int) (D : Dsk) (all : List Int), Holds D s lg ps all → (∀ m ∈ rl, m ∈ all ∧ ∀ p ∈ ps, p.1 ≠ m) → rl.Nodup → Holds (rmD D rl) s lg ps (all.filter fun x => decide (x ∉ rl))
  | [], D, all, h, _, _ => by
    have : (all.filter fun x => decide (x ∉ ([] : List Int))) = all := by simp
    rw [this]; exact h
  | m :: rl, D, all, h, hm, hnd => by
    have h0 := hm m (List.mem_cons_self ..)
    have h1 := h.removed m h0.1 h0.2
    have hnd2 := List.nodup_cons.1 hnd
    have h2 := rm_holds rl (removedD D (nameS m.toNat)) _ h1 (fun x hx => ⟨List.mem_filter.2 ⟨(hm x (List.mem_cons_of_mem _ hx)).1, by simp; intro e; subst e; exact hnd2.1 hx⟩, (hm x (List.mem_cons_of_mem _ hx)).2⟩) hnd2.2
    have e : (all.filter fun x => decide (x ∉ m :: rl)) = ((all.filter fun k => decide (k ≠ m)).filter fun x => decide (x ∉ rl)) := by
      rw [List.filter_filter]
      congr 1
      funext x
      by_cases a : x = m <;> by_cases b : x ∈ rl <;> simp [a, b]
    rw [e]; exact h2
theorem rm_get {n : ByteArray} {i : Nat} : ∀ (rl : List Int) (D : Dsk), getA n D.M = some i → (∀ m ∈ rl, nameS m.toNat ≠ n) → getA n (rmD D rl).M = some i
  | [], D, h, _ => h
  | m :: rl, D, h, hm => by
    refine rm_get rl (removedD D (nameS m.toNat)) ?_ (fun x hx => hm x (List.mem_cons_of_mem _ hx))
    show getA n (delA _ _) = _
    rw [getA_del, if_neg (fun e => hm m (List.mem_cons_self ..) e.symm)]; exact h
theorem rm_room {k c : Nat} : ∀ (rl : List Int) (D : Dsk), Room D k c → D.lim + 2 * rl.length ≤ 40 * k → Room (rmD D rl) k c
  | [], D, h, _ => h
  | m :: rl, D, h, hl => by
    refine rm_room rl (removedD D (nameS m.toNat)) (h.removed _ ?_) ?_
    · simp at hl; omega
    · show D.lim + 2 + 2 * rl.length ≤ _
      simp at hl; omega
theorem tn_merge {s : Sch} {St : StM} {lg : List Int} {k : Nat} (h : TN s St lg k) (hk : St.next < 70) (a b c : List Int) (pa pb pc : List (List Row)) (hi : St.ids = a ++ b ++ c) (hp : St.parts = pa ++ pb ++ pc) (ha : a.length = pa.length) (hbb : b.length = pb.length) (hb36 : b.length ≤ 36)
    (new : List Row) (hbl : (partB s new).length ≤ 4000) (li : Nat) (hli : getA logS St.D.M = some li) :
    TN s ⟨s, a ++ ((St.next : Int) :: c), St.next + 1, pa ++ [new] ++ pc, rmD (wroteD St.D (nameS St.next) (partB s new) li (lg ++ recSwap b St.next)) b⟩ (lg ++ recSwap b St.next) (k + 2) ∧
    ∀ j (hj : j < b.length), ∃ i, getA (nameS (b[j]).toNat) (rmD (wroteD St.D (nameS St.next) (partB s new) li (lg ++ recSwap b St.next)) (b.take j)).M = some i := by
  have hnot : (St.next : Int) ∉ St.ids := fun e => by have := h.nx _ e; omega
  have hrng : ∀ m ∈ b, 0 ≤ m ∧ m < 100 := fun m hm => h.holds.rng m (by rw [hi]; simp [hm])
  have hsl := recSwap_len b (by omega) (fun m hm => by have := hrng m hm; omega) St.next (by omega)
  have hlg := h.lgl
  have hnk := h.nk
  obtain ⟨h1, h2, h3, h4, h5, h6, h8, h9⟩ := h
  have hw := h3.wrote St.next (by omega) hnot new li hli (lg ++ recSwap b St.next)
  have hlc : c.length = pc.length := by rw [hi, hp] at h2; simp at h2; omega
  have hnd := h9
  rw [hi] at hnd
  have hnd1 := (List.nodup_append.1 hnd)
  have hnd2 := (List.nodup_append.1 hnd1.1)
  have hz : St.ids.zip St.parts = a.zip pa ++ b.zip pb ++ c.zip pc := by
    rw [hi, hp, List.zip_append (by simp [ha, hbb]), List.zip_append ha]
  have hz2 : (a ++ ((St.next : Int) :: c)).zip (pa ++ [new] ++ pc) = a.zip pa ++ ((St.next : Int), new) :: c.zip pc := by
    rw [List.append_assoc, List.zip_append ha]; rfl
  have hps : ∀ p ∈ (a ++ ((St.next : Int) :: c)).zip (pa ++ [new] ++ pc), p ∈ St.ids.zip St.parts ++ [((St.next : Int), new)] := by
    intro p hp'
    rw [hz2] at hp'
    rw [hz]
    simp only [List.mem_append, List.mem_cons, List.not_mem_nil, or_false] at hp' ⊢
    rcases hp' with e | e | e
    · exact .inl (.inl (.inl e))
    · exact .inr e
    · exact .inl (.inr e)
  have hw2 := hw.mono hps
  have hout : ∀ m ∈ b, m ∉ a ∧ m ∉ c ∧ m ≠ (St.next : Int) := fun m hm =>
    ⟨fun e => hnd2.2.2 m e m hm rfl, fun e => hnd1.2.2 m (by simp [hm]) m e rfl, fun e => hnot (by rw [hi, ← e]; simp [hm])⟩
  have hrem : ∀ m ∈ b, m ∈ St.ids ++ [(St.next : Int)] ∧ ∀ p ∈ (a ++ ((St.next : Int) :: c)).zip (pa ++ [new] ++ pc), p.1 ≠ m := fun m hm => by
    refine ⟨by rw [hi]; simp [hm], fun p hp' e => ?_⟩
    have h0 := hout m hm
    have : p.1 ∈ a ++ ((St.next : Int) :: c) := (List.of_mem_zip (show (p.1, p.2) ∈ _ from hp')).1
    rw [e] at this
    rcases List.mem_append.1 this with q | q
    · exact h0.1 q
    · rcases List.mem_cons.1 q with q | q
      · exact h0.2.2 q
      · exact h0.2.1 q
  have hh := rm_holds b _ _ hw2 hrem hnd2.2.1
  have hall : ((St.ids ++ [(St.next : Int)]).filter fun x => decide (x ∉ b)).Perm (a ++ ((St.next : Int) :: c)) := by
    rw [hi]
    simp only [List.filter_append]
    have fa : a.filter (fun x => decide (x ∉ b)) = a := List.filter_eq_self.2 (fun x hx => by simp; exact fun e => (hout x e).1 hx)
    have fb : b.filter (fun x => decide (x ∉ b)) = [] := List.filter_eq_nil_iff.2 (fun x hx => by simp [hx])
    have fc : c.filter (fun x => decide (x ∉ b)) = c := List.filter_eq_self.2 (fun x hx => by simp; exact fun e => (hout x e).2.1 hx)
    have fn : [(St.next : Int)].filter (fun x => decide (x ∉ b)) = [(St.next : Int)] := List.filter_eq_self.2 (fun x hx => by simp at hx; subst hx; simp; exact fun e => (hout _ e).2.2 rfl)
    rw [fa, fb, fc, fn, List.append_nil, List.append_assoc]
    exact List.Perm.append_left a (List.perm_append_comm)
  have hmem : ∀ x, x ∈ (St.ids ++ [(St.next : Int)]).filter (fun x => decide (x ∉ b)) ↔ x ∈ a ++ ((St.next : Int) :: c) := fun x => hall.mem_iff
  have hfin : Holds (rmD (wroteD St.D (nameS St.next) (partB s new) li (lg ++ recSwap b St.next)) b) s (lg ++ recSwap b St.next) ((a ++ ((St.next : Int) :: c)).zip (pa ++ [new] ++ pc)) (a ++ ((St.next : Int) :: c)) :=
    ⟨hh.srt, hh.idx, hh.inj, hh.log_, hh.part, fun n hn => by
      rcases List.mem_cons.1 (hh.only n hn) with e | e
      · rw [e]; exact List.mem_cons_self ..
      · obtain ⟨x, hx, e⟩ := List.mem_map.1 e
        exact List.mem_cons_of_mem _ (List.mem_map.2 ⟨x, (hmem x).1 hx, e⟩), fun n hn => hh.rng n ((hmem n).2 hn), fun p hp' => (hmem _).1 (hh.sub p hp')⟩
  refine ⟨⟨rfl, by simp [ha, hlc], hfin, ?_, ?_, ?_, ?_, ?_⟩, ?_⟩
  · have hr := h4.wrote (nameS St.next) (partB s new) li (lg ++ recSwap b St.next) hbl (by rw [List.length_append]; omega)
    have hr2 : Room (wroteD St.D (nameS St.next) (partB s new) li (lg ++ recSwap b St.next)) (k + 2) 4000 := ⟨hr.quota, Nat.le_succ_of_le hr.names, hr.files, by have := hr.lim; omega⟩
    refine rm_room b _ hr2 ?_
    show St.D.lim + 8 + 2 * b.length ≤ _
    have := h4.lim
    omega
  · intro n hn
    have : n ∈ St.ids ∨ n = (St.next : Int) := by
      rw [hi]
      rcases List.mem_append.1 hn with e | e
      · exact .inl (by simp [e])
      · rcases List.mem_cons.1 e with e | e
        · exact .inr e
        · exact .inl (by simp [e])
    show 0 ≤ n ∧ n < ((St.next + 1 : Nat) : Int)
    rcases this with e | e
    · have := h5 n e; omega
    · omega
  · show (lg ++ recSwap b St.next).length ≤ 50 * (St.next + 1) + 200
    rw [List.length_append]; omega
  · show St.next + 1 ≤ k + 2
    omega
  · show (a ++ ((St.next : Int) :: c)).Nodup
    rw [List.nodup_append]
    refine ⟨hnd2.1, List.nodup_cons.2 ⟨fun e => hnot (by rw [hi]; simp [e]), hnd1.2.1⟩, fun x hx y hy e => ?_⟩
    subst e
    rcases List.mem_cons.1 hy with q | q
    · exact hnot (by rw [hi, ← q]; simp [hx])
    · exact hnd1.2.2 x (by simp [hx]) x q rfl
  · intro j hj
    have hm := List.getElem_mem hj
    have hpart : (b[j], pb[j]'(by omega)) ∈ St.ids.zip St.parts := by
      rw [hz]
      have : (b[j], pb[j]'(by omega)) ∈ b.zip pb := by
        rw [← List.getElem_zip (h := by rw [List.length_zip]; omega)]
        exact List.getElem_mem _
      simp [this]
    obtain ⟨i, hi2, _⟩ := hw.part _ (List.mem_append_left _ hpart)
    refine ⟨i, rm_get _ _ hi2 (fun m hm2 e => ?_)⟩
    have hmb : m ∈ b := List.mem_of_mem_take hm2
    have he := nameS_inj' (hrng m hmb) (hrng _ hm) e
    obtain ⟨q, hq, e2⟩ := List.getElem_of_mem hm2
    rw [List.getElem_take] at e2
    rw [List.length_take] at hq
    have := (List.getElem_inj hnd2.2.1).1 (e2.trans he)
    omega
end P11
namespace K86
open Go Go.RowKit Go.Lib
open KB KB2 K1 K70 K72
set_option linter.unusedVariables false
set_option linter.unusedSimpArgs false
set_option maxHeartbeats 2000000
set_option maxRecDepth 100000
theorem stepSC (F : Nat → Prop) (tg dg mg : Nat) (pv : Value) (S : StM) (w : World) (h : StoreAt F w tg dg mg pv S) (hn : S.parts.length ≤ 1000) (hsz : ∀ l ∈ S.parts, l.length ≤ 1048576) (hF : ∀ k, F k → k < w.heap.size) (P : World → Prop) (h0 : ∀ W, Ext w W → P W)
    (hm : ∀ f t : Nat, f + 2 ≤ t → t ≤ S.parts.length → ∀ W, Ext w W → Calls Tryz.prog 32 #[PX tg, .int .i64 f, .int .i64 t] W fun e w' => e = .returned (.int .i64 0) ∧ P w') :
    Calls Tryz.prog 10 #[PX tg] w fun e w' => (∃ b : Bool, e = .returned (.tuple #[.bool b, .int .i64 0])) ∧ P w' := by
  obtain ⟨A, c, Ai, ci, hb, hA, hi⟩ := h.at_
  obtain ⟨Ap, cp, rfl, hpsl⟩ := h.sl
  have hz := sizesC F tg dg mg _ S w h hn hF F hF
  have HZ := As.mk hz
  have HM := As.mk hm
  have H0 := As.mk h0
  clear hz hm h0
  (have p0 := blk_cell (hb) 0; have p1 := blk_cell (hb) 1; have p2 := blk_cell (hb) 2; have p3 := blk_cell (hb) 3; have p4 := blk_cell (hb) 4; have p5 := blk_cell (hb) 5; have p6 := blk_cell (hb) 6; have p7 := blk_cell (hb) 7; have p8 := blk_cell (hb) 8)
  go_enter Tryz.func10, Tryz.ntmps10
  go_wp2_with (fail)
  refine HZ.out.mono ?_; rintro e w1 ⟨Az, cz, rfl, hsz1, hE1⟩
  have hpk := K59.pickC F Az cz _ w1 hsz1 (fun n hn' => by obtain ⟨l, hl, rfl⟩ := List.mem_map.1 hn'; have := hsz l hl; omega) (by rw [List.length_map]; exact hn)
  rw [List.length_map] at hpk
  have HPK := As.mk hpk
  clear hpk p0 p1 p2 p3 p4 p5 p6 p7 p8
  go_wp2_with (fail)
  refine HPK.out.mono ?_; rintro e w2 ⟨⟨f, t, rfl, hft, htn⟩, hE2⟩
  have hE12 := hE1.trans hE2
  (have p0 := blk_cell (hE12.blk hb) 0; have p1 := blk_cell (hE12.blk hb) 1; have p2 := blk_cell (hE12.blk hb) 2; have p3 := blk_cell (hE12.blk hb) 3; have p4 := blk_cell (hE12.blk hb) 4; have p5 := blk_cell (hE12.blk hb) 5; have p6 := blk_cell (hE12.blk hb) 6; have p7 := blk_cell (hE12.blk hb) 7; have p8 := blk_cell (hE12.blk hb) 8)
  have HMY := As.mk (K59.mayC S.parts.length f t hn (by omega) (by omega) w2)
  go_wp2_with (fail)
  refine HMY.out.mono ?_; rintro e w3 ⟨rfl, hw⟩; rw [hw]; clear hw
  clear p0 p1 p2 p3 p4 p5 p6 p7 p8
  by_cases hy : f + 2 ≤ t
  · have hmy : K59.may S.parts.length f t = true := by simp [K59.may]; omega
    rw [hmy]
    go_wp2_with (fail)
    refine (HM.out f t hy htn w2 hE12).mono ?_; rintro e w4 ⟨rfl, hP⟩
    go_wp2_with (fail)
    refine bodyPost_ret (v := .tuple #[.bool true, .int .i64 0]) (by simp [results, Tryz.results10, go_sem]) rfl ?_
    exact ⟨⟨_, rfl⟩, hP⟩
  · have hmy : K59.may S.parts.length f t = false := by simp [K59.may]; omega
    rw [hmy]
    go_wp2_with (fail)
    refine bodyPost_ret (v := .tuple #[.bool false, .int .i64 0]) (by simp [results, Tryz.results10, go_sem]) rfl ?_
    exact ⟨⟨_, rfl⟩, H0.out w2 hE12⟩
end K86
namespace K106
open Go Go.RowKit
open KB KB2 P2 K1 K2 K3 K17 P5 P6 P8 P9 K25 K35 K38 K42 K54 K55 K56 K57 K58 K31 K65 K70 K71 K72 K75 K77 K81 K87 K88 K89 K91 K92 K93 K94 K95 K97 K5 P4 P10 K79 K98 K99 K101 K102 K103 K104 K105
set_option linter.unusedVariables false
set_option linter.unusedSimpArgs false
set_option maxHeartbeats 2000000
set_option maxRecDepth 100000
abbrev s0 : Sch := ⟨[1, 1], 1, 3, 2⟩
theorem s0ok : s0.Ok := by constructor <;> decide
abbrev num1 (i : Nat) : ByteArray := BA [UInt8.ofNat (48 + i)]
abbrev src0 : List UInt8 := [116, 97, 98, 108, 101, 32, 115, 117, 109, 109, 105, 110, 103, 32, 49, 32, 50, 32, 105, 110, 116, 32, 105, 110, 116, 10, 105, 110, 115, 101, 114, 116, 32, 49, 32, 53, 32, 124, 32, 50, 32, 49, 10, 105, 110, 115, 101, 114, 116, 32, 49, 32, 55, 10, 99, 114, 97, 115, 104, 32, 48, 10, 116, 97, 98, 108, 101, 32, 115, 117, 109, 109, 105, 110, 103, 32, 49, 32, 50, 32, 105, 110, 116, 32, 105, 110, 116, 10, 103, 101, 116, 32, 102, 105, 110, 97, 108]
abbrev ws0 : List (List ByteArray) := [[tableB, modeW 3, num1 1, num1 2, typeW 1, typeW 1], [insertB, num1 1, num1 5, bar, num1 2, num1 1], [insertB, num1 1, num1 7], [crashB, num1 0], [tableB, modeW 3, num1 1, num1 2, typeW 1, typeW 1], [getB, finalB]]
theorem lines0 : (linesL src0).map (fun l => (wds l).map BA) = ws0 := by decide
theorem marks0 : ∀ l ∈ linesL src0, NoMark (wds l) := by unfold NoMark; decide
theorem lens0 : ∀ l ∈ linesL src0, l.length ≤ 1000000 := by decide
theorem len0 : (linesL src0).length = 6 := by decide
abbrev V (n : Int) : Val := (n, emp)
abbrev rows1 : List Row := [[V 1, V 5], [V 2, V 1]]
abbrev rows2 : List Row := [[V 1, V 7]]
theorem rowOk2 (s : Sch) (ht : s.types = [1, 1]) (a b : Int) (ha : I64 a) (hb : I64 b) : RowOk s [V a, V b] := by
  refine ⟨by rw [ht]; rfl, fun i h h' => ?_⟩
  have hi : i < 2 := h'
  match i, hi with
  | 0, _ => simp only [ht]; exact ⟨ha, .inl ⟨.inl rfl, rfl⟩⟩
  | 1, _ => simp only [ht]; exact ⟨hb, .inl ⟨.inl rfl, rfl⟩⟩
theorem sort1 : sortS s0 rows1 = rows1 := by decide
theorem sort2 : sortS s0 rows2 = rows2 := by decide
theorem told0 : told s0 true [rows1, rows2] = [[V 1, V 12], [V 2, V 1]] := by decide +kernel
abbrev lgN (s : Sch) (n : Nat) : List Int := recHead s (idsTo 0) 0 ++ adds n
/-- A table of n batches, none of them merged. -/
def GT (s : Sch) (y n : Nat) (ps : List (List Row)) (k : Nat) (O T : Nat → Prop) (W : World) : Prop :=
  ∃ St, Tabl s St (lgN s n) k ∧ St.ids = idsTo n ∧ St.next = n ∧ St.parts = ps ∧ StTab y St O T W
def GD (s : Sch) (y n : Nat) (ps : List (List Row)) (k : Nat) (O T : Nat → Prop) (W : World) : Prop :=
  ∃ D, Holds D s (lgN s n) ((idsTo n).zip ps) (idsTo n) ∧ Room D k 4000 ∧ StDisk y D O T W
def GP (s : Sch) (y : Nat) (ps : List (List Row)) (O T : Nat → Prop) (W : World) : Prop :=
  ∃ St, St.s = s ∧ St.parts = ps ∧ StTab y St O T W
abbrev D00 : Dsk := ⟨1048576, 0, 0, [], [], true⟩
theorem openNew (s : Sch) (hs : s.Ok) (y : Nat) (O T : Nat → Prop) (W : World) (h : StDisk y D00 O T W) (hO : ∀ q, O q → q < W.heap.size) (wk wg : ByteArray) (hk : Says W 1 wk s.keys) (hg : Says W 1 wg s.grain) (A : Option Addr) (c : Nat)
    (hl : rdStr.Sl (fun q => O q ∨ T q) W A c (tableB :: modeW s.mode :: wk :: wg :: s.types.map typeW)) :
    Calls Tryz.prog 47 #[BX y, .slice A (s.types.length + 4) c] W fun e W' => e = .returned (.string ⟨#[111, 107]⟩) ∧ ∃ T', GT s y 0 [] 1 O T' W' ∧ Keep T W W' ∧ ∀ q, T' q → T q ∨ W.heap.size ≤ q := by
  have hrl := recHead_len s hs (idsTo 0) (by simp [idsTo]) (fun n hn => by simp [idsTo] at hn) 0 (by decide)
  have h0 := holds0 D00 rfl rfl s (recHead s (idsTo 0) 0)
  refine (lineOpen y D00 O T W h hO s hs wk wg hk hg A c hl 0 (by decide) ?_ [] rfl (fun k hk => absurd hk (Nat.not_lt_zero _)) (by decide) (by decide) rfl rfl ?_ (by omega) ?_).mono ?_
  · intro F dg mg A' c' W' hd hA hF
    refine (load0C F dg mg D00 W' hd A' c' s rfl hF).mono ?_
    rintro e w' ⟨rfl, hE⟩
    exact ⟨A', c', none, 0, rfl, Rd.Sl.ext hA hE, Rd.Sl.nil0 _ _ _, hE⟩
  · show 0 + _ ≤ 1048576
    omega
  · intro nm hnm
    exact h0.only nm hnm
  · rintro e w' ⟨rfl, T', hT, hK, hN⟩
    refine ⟨rfl, T', ⟨_, ?_, rfl, rfl, rfl, hT⟩, hK, hN⟩
    have := tabl_new s hs 1048576 rfl
    have e : lgN s 0 = recHead s (idsTo 0) 0 := by show _ ++ adds 0 = _; simp [adds]
    rw [e]; exact this
theorem insGT (s : Sch) (hs : s.Ok) (y n : Nat) (ps : List (List Row)) (k : Nat) (hn : n < 30) (hk : k < 60) (O T : Nat → Prop) (W : World) (h : GT s y n ps k O T W) (hO : ∀ q, O q → q < W.heap.size) (A : Option Addr) (c : Nat) (l : List ByteArray) (hln : l.length ≤ 10000)
    (hl : rdStr.Sl (fun q => O q ∨ T q) W A c (insertB :: l)) (rows : List Row) (sss : List (List ByteArray)) (hlb : l ++ [bar] = barred sss) (hsl : sss.length = rows.length) (hsay : ∀ k (h1 : k < rows.length) (h2 : k < sss.length), SaysR W s.types rows[k] sss[k] ∧ ∀ x ∈ sss[k], x ≠ bar)
    (hro : PartOk s (sortS s rows)) (hb : (partB s (sortS s rows)).length ≤ 4000) (hlr : ∀ r ∈ rows, RowOk s r) (h1 : 1 ≤ rows.length) (h2 : rows.length < 20) (htot : rows.length + sumL ps ≤ 2000) :
    Calls Tryz.prog 47 #[BX y, .slice A (l.length + 1) c] W fun e W' => e = .returned (.string ⟨#[111, 107]⟩) ∧ ∃ T', GT s y (n + 1) (ps ++ [sortS s rows]) (k + 1) O T' W' ∧ Keep T W W' ∧ ∀ q, T' q → T q ∨ W.heap.size ≤ q := by
  obtain ⟨St, hTb, hids, hnx, hps, hSt⟩ := h
  obtain ⟨li, hli, hlf⟩ := hTb.holds.log_
  have hTb2 := tabl_ins hs hTb (by omega) rows hb li hli (.inr (by omega))
  have hsc := hTb.sch
  have hus := hTb.room.used
  have hq := hTb.room.quota
  have hlm := hTb.room.lim
  have hnm := hTb.room.names
  have hlg := hTb.lgl
  have hnot : (St.next : Int) ∉ St.ids := fun e => by have := hTb.nx _ e; omega
  have hrl : (recAdd St.next).length = 7 := recAdd_len _ (by omega)
  have hfr := hTb.holds.fresh (id := St.next) (by omega) hnot
  have hne := hTb.holds.noEmp
  have hilen : St.ids.length = n := by rw [hids]; exact idsTo_len n
  have hplen : St.parts.length = n := by rw [← hTb.len]; exact hilen
  subst hsc
  refine (lineInsert y St O T W hSt hO hs A c l hln hl rows sss hlb hsl hsay hro hlr h1 h2 (by omega) (by omega) (by omega) (by rw [hps]; exact htot) (fun m hm => (hTb.nx m hm).2) (by omega) (by omega) hfr hne.1 li hli _ _ hlf ?_ ?_).mono ?_
  · rw [hq, hrl]
    have : k * 4000 ≤ 60 * 4000 := Nat.mul_le_mul_right _ (by omega)
    omega
  · rw [hrl]; omega
  · rintro e w' ⟨rfl, T', hT, hK, hN⟩
    refine ⟨rfl, T', ⟨_, ?_, ?_, ?_, ?_, hT⟩, hK, hN⟩
    · have e1 : lgN St.s (n + 1) = lgN St.s n ++ recAdd St.next := by
        show _ ++ adds (n + 1) = (_ ++ adds n) ++ _
        rw [adds_succ, hnx, List.append_assoc]
      rw [e1]; exact hTb2
    · show St.ids ++ [(St.next : Int)] = _
      rw [hids, hnx, idsTo_succ]
    · show St.next + 1 = n + 1
      rw [hnx]
    · show St.parts ++ [sortS St.s rows] = _
      rw [hps]
theorem crashGT (s : Sch) (y n : Nat) (ps : List (List Row)) (k : Nat) (O T : Nat → Prop) (W : World) (h : GT s y n ps k O T W) (hO : ∀ q, O q → q < W.heap.size) (A : Option Addr) (c : Nat) (l : List ByteArray) (hln : l.length ≤ 1000)
    (hl : rdStr.Sl (fun q => O q ∨ T q) W A c (crashB :: l)) (ch : Nat) (hch : ch ≤ 999999) (ts : List Int) (htv : ∀ t ∈ ts, 0 ≤ t ∧ t ≤ 999999) (hsy : SaysL W l ((ch : Int) :: ts)) :
    Calls Tryz.prog 47 #[BX y, .slice A (l.length + 1) c] W fun e W' => e = .returned (.string ⟨#[111, 107]⟩) ∧ ∃ T', GD s y n ps k O T' W' ∧ Keep T W W' ∧ ∀ q, T' q → T q ∨ W.heap.size ≤ q := by
  obtain ⟨St, hTb, hids, hnx, hps, hSt⟩ := h
  have hsafe := holds_safe hTb.holds (fun m hm => by
    obtain ⟨j, hj, e⟩ := List.getElem_of_mem hm
    have hj2 : j < St.parts.length := by rw [← hTb.len]; exact hj
    refine ⟨(St.ids[j], St.parts[j]), ?_, e⟩
    rw [← List.getElem_zip (h := by rw [List.length_zip]; omega)]
    exact List.getElem_mem _)
  refine (lineCrash y St O T W hSt hO A c l hln hl ch hch ts htv hsy hTb.clean hsafe).mono ?_
  rintro e w' ⟨rfl, T', hT, hK, hN⟩
  refine ⟨rfl, T', ⟨crD St.D, ?_, room_cr hTb.room, hT⟩, hK, hN⟩
  have := holds_cr hTb.holds
  rw [hids, hps] at this
  exact this
end K106
namespace K109
open Go Go.RowKit
open KB KB2 P2 K1 K2 K3 K17 P5 P6 P8 P9 K25 K35 K38 K42 K54 K55 K56 K57 K58 K31 K65 K70 K71 K72 K75 K77 K81 K87 K88 K89 K91 K92 K93 K94 K95 K97 K5 P4 P10 K79 K106
set_option linter.unusedVariables false
set_option linter.unusedSimpArgs false
set_option maxHeartbeats 2000000
set_option maxRecDepth 100000
theorem begunC (F : Nat → Prop) (A : Option Addr) (c : Nat) (s : Sch) (hs : s.Ok) (w : World) (hA : SchAt F w A c s) (hF : ∀ k, F k → k < w.heap.size) :
    Calls Tryz.prog 8 #[schV A c s] w fun e w' => ∃ dg mg tg pv St, e = .returned (.tuple #[BX dg, PX tg]) ∧ StoreAt F w' tg dg mg pv St ∧ Tabl s St (recHead s (idsTo 0) 0) 1 ∧ St.parts = [] ∧ St.next = 0 ∧ (∀ q, SB tg dg mg pv q → w.heap.size ≤ q) ∧ Ext w w' := by
  have hrl := recHead_len s hs (idsTo 0) (by simp [idsTo]) (fun n hn => by simp [idsTo] at hn) 0 (by decide)
  have h0 := holds0 D00 rfl rfl s (recHead s (idsTo 0) 0)
  have hEb := (Ext.refl w).alloc (.cells #[.slice A s.types.length c, .int .i64 s.keys, .int .i64 s.mode, .int .i64 s.grain] 27)
  have hBb := blk_new w (.cells #[.slice A s.types.length c, .int .i64 s.keys, .int .i64 s.mode, .int .i64 s.grain] 27)
  have HN := As.mk (fun W (hW : Ext w W) => newC F 1048576 (by decide) W (FExt hF hW))
  have HOP := As.mk (fun W (hW : Ext w W) dg mg (hdg : w.heap.size ≤ dg) (hmg : w.heap.size ≤ mg) (hd : DiskAt F W dg mg D00) => openSC F dg mg D00 W hd s hs A c (Rd.Sl.ext (Rd.Sl.narrow (G := DF F dg mg) Nat.one_pos hA (fun k hk e => e.elim id (fun e => e.elim (fun e => by omega) (fun e => by omega)))) hW) 0 (by decide)
    (fun W2 hW2 => (load0C F dg mg D00 W2 (hd.ext hW2) A c s rfl (FExt (FExt hF hW) hW2)).mono (by
      rintro e w' ⟨rfl, hE⟩
      exact ⟨A, c, none, 0, rfl, Rd.Sl.ext (Rd.Sl.ext (Rd.Sl.ext (Rd.Sl.narrow (G := DF F dg mg) Nat.one_pos hA (fun k hk e => e.elim id (fun e => e.elim (fun e => by omega) (fun e => by omega)))) hW) hW2) hE, Rd.Sl.nil0 _ _ _, hE⟩))
    [] rfl (fun k hk => absurd hk (Nat.not_lt_zero _)) (by decide) (by decide) rfl rfl _ rfl (by show 0 + _ ≤ 1048576; omega) (by omega) (fun nm hnm => h0.only nm hnm) (FExt hF hW))
  clear h0 hrl
  go_enter Tryz.func8, Tryz.ntmps8
  go_wp2_with (fail)
  refine (HN.out _ hEb).mono ?_; rintro e w1 ⟨dg, mg, rfl, hdg, hmg, hD1, hE1⟩
  have hE01 := hEb.trans hE1
  have hb1 := hE1.blk hBb
  (have p0 := blk_cell (hb1) 0; have p1 := blk_cell (hb1) 1; have p2 := blk_cell (hb1) 2; have p3 := blk_cell (hb1) 3)
  have hz := hEb.size
  go_wp2_with (fail)
  refine (HOP.out w1 hE01 dg mg (Nat.le_trans hz hdg) (Nat.le_trans hz hmg) hD1).mono ?_; rintro e w2 ⟨tg, pv, rfl, htg, hpv, hS, hK⟩
  go_wp2_with (fail)
  refine bodyPost_ret (v := .tuple #[BX dg, PX tg]) (by simp [results, Tryz.results8, go_sem]) rfl ?_
  have hz1 := hE01.size
  refine ⟨dg, mg, tg, pv, _, rfl, hS, tabl_new s hs 1048576 rfl, rfl, rfl, ?_, hE01.keepNew hK (fun q e => e.elim (fun e => by omega) (fun e => by omega))⟩
  rintro q (e | e | e | e)
  · omega
  · omega
  · omega
  · have := hpv q e; omega
theorem finalC (F : Nat → Prop) (tg dg mg : Nat) (pv : Value) (S : StM) (hs : S.s.Ok) (w : World) (h : StoreAt F w tg dg mg pv S) (hn : S.parts.length ≤ 1000) (hN : S.parts.flatten.length ≤ 100000) (ho : ∀ x ∈ S.parts, Srt (cmpS S.s) x ∧ ∀ r ∈ x, RowOk S.s r) (hF : ∀ k, F k → k < w.heap.size) :
    Calls Tryz.prog 11 #[PX tg] w fun e w' => ∃ (A' : Option Addr) (c' : Nat), e = .returned (.tuple #[.slice A' (told S.s true S.parts).length c', .bool true]) ∧ rdRow.Sl F w' A' c' (told S.s true S.parts) ∧ Ext w w' := by
  have HQ := As.mk (queryC F tg dg mg pv S hs true w h hn hN ho hF)
  clear h
  go_enter Tryz.func11, Tryz.ntmps11
  go_wp2_with (fail)
  refine HQ.out.mono ?_; rintro e w1 ⟨A1, c1, n1, rfl, hs1, hE1⟩
  have hB := blk_new w1 (.cells #[.slice A1 (told S.s true S.parts).length c1, .slice none 0 0, .int .i64 n1] 67)
  have hEa := (Ext.refl w1).alloc (.cells #[.slice A1 (told S.s true S.parts).length c1, .slice none 0 0, .int .i64 n1] 67)
  (have p0 := blk_cell (hB) 0; have p1 := blk_cell (hB) 1; have p2 := blk_cell (hB) 2)
  go_wp2_with (fail)
  refine bodyPost_ret (v := .tuple #[.slice A1 (told S.s true S.parts).length c1, .bool true]) (by simp [results, Tryz.results11, go_sem]) rfl ?_
  exact ⟨A1, c1, rfl, hs1.ext hEa, hE1.trans hEa⟩
end K109
namespace K107
open Go Go.RowKit
open KB KB2 P2 K1 K2 K3 K17 P5 P6 P8 P9 K25 K35 K38 K42 K54 K55 K56 K57 K58 K31 K65 K70 K71 K72 K75 K77 K81 K87 K88 K89 K91 K92 K93 K94 K95 K97 K5 P4 P10 K79 K98 K99 K101 K102 K103 K104 K105 K106
set_option linter.unusedVariables false
set_option linter.unusedSimpArgs false
set_option maxHeartbeats 2000000
set_option maxRecDepth 100000
theorem idsTo_rng {n : Nat} (h : n < 100) : ∀ m ∈ idsTo n, 0 ≤ m ∧ m < 128 := fun m hm => by have := idsTo_mem.1 hm; omega
theorem openOld (s : Sch) (hs : s.Ok) (y n : Nat) (hn : n ≤ 40) (ps : List (List Row)) (hpl : ps.length = n) (hps : ∀ x ∈ ps, PartOk s x) (k : Nat) (hk : k < 100) (O T : Nat → Prop) (W : World) (h : GD s y n ps k O T W) (hO : ∀ q, O q → q < W.heap.size) (wk wg : ByteArray) (hkk : Says W 1 wk s.keys) (hg : Says W 1 wg s.grain) (A : Option Addr) (c : Nat)
    (hl : rdStr.Sl (fun q => O q ∨ T q) W A c (tableB :: modeW s.mode :: wk :: wg :: s.types.map typeW)) :
    Calls Tryz.prog 47 #[BX y, .slice A (s.types.length + 4) c] W fun e W' => e = .returned (.string ⟨#[111, 107]⟩) ∧ ∃ T', GP s y ps O T' W' ∧ Keep T W W' ∧ ∀ q, T' q → T q ∨ W.heap.size ≤ q := by
  obtain ⟨D, hH, hR, hS⟩ := h
  have hrl := recHead_len s hs (idsTo n) (by rw [idsTo_len]; omega) (idsTo_rng (by omega)) n (by omega)
  have hr0 := recHead_len s hs (idsTo 0) (by simp [idsTo]) (fun n hn => by simp [idsTo] at hn) 0 (by decide)
  have hal : (adds n).length = 7 * n := by
    clear hl hkk hg hS hR hH hpl hrl hk
    induction n with
    | zero => rfl
    | succ n ih => rw [adds_succ, List.length_append, ih (by omega), recAdd_len n (by omega)]; omega
  obtain ⟨li, hli, hlf⟩ := hH.log_
  have hus := hR.used
  have hq := hR.quota
  have hlm := hR.lim
  have hnm := hR.names
  have hne := hH.noEmp
  have hsv := holds_saved hH (recHead s (idsTo n) n)
  refine (lineOpen y D O T W hS hO s hs wk wg hkk hg A c hl n hn ?_ ps hpl ?_ (by omega) (by omega) hne.2 hne.1 ?_ (by omega) (fun nm hnm => hsv.only nm hnm)).mono ?_
  · intro F dg mg A' c' W' hd hA hF
    exact load1C F dg mg D W' hd A' c' s hs (Rd.Sl.narrow Nat.one_pos hA (fun k _ e => .inl e)) n hn li hli _ _ hlf rfl (by show (recHead s (idsTo 0) 0 ++ adds n).length ≤ _; rw [List.length_append]; omega) hF
  · intro j hj
    have hjn : j < (idsTo n).length := by rw [idsTo_len]; omega
    have hm : (((j : Nat) : Int), ps[j]) ∈ (idsTo n).zip ps := by
      have e : (idsTo n)[j] = ((j : Nat) : Int) := by simp [idsTo]
      rw [← e, ← List.getElem_zip (h := by rw [List.length_zip]; omega)]
      exact List.getElem_mem _
    obtain ⟨i, hi, hf⟩ := hH.part _ hm
    exact ⟨i, _, by simpa using hi, hf, hps _ (List.getElem_mem hj)⟩
  · rw [hq]
    have : k * 4000 ≤ 100 * 4000 := Nat.mul_le_mul_right _ (by omega)
    omega
  · rintro e w' ⟨rfl, T', hT, hK, hN⟩
    exact ⟨rfl, T', ⟨_, rfl, rfl, hT⟩, hK, hN⟩
/-- The states of the script that is shown. -/
def SS (y : Nat) (k : Nat) (O T : Nat → Prop) (W : World) : Prop :=
  match k with
  | 0 => StDisk y D00 O T W
  | 1 => GT s0 y 0 [] 1 O T W
  | 2 => GT s0 y 1 [rows1] 2 O T W
  | 3 => GT s0 y 2 [rows1, rows2] 3 O T W
  | 4 => GD s0 y 2 [rows1, rows2] 3 O T W
  | _ => GP s0 y [rows1, rows2] O T W
theorem gt_keep {s : Sch} {y n : Nat} {ps : List (List Row)} {k : Nat} {O T : Nat → Prop} {W W' : World} (h : GT s y n ps k O T W) (K : Keep O W W') : GT s y n ps k O T W' := by
  obtain ⟨St, a, b, c, d, e⟩ := h
  exact ⟨St, a, b, c, d, stTab_keep e K⟩
theorem gt_narrow {s : Sch} {y n : Nat} {ps : List (List Row)} {k : Nat} {O O' T : Nat → Prop} {W : World} (h : GT s y n ps k O T W) (hO : ∀ q, q < W.heap.size → O' q → O q) : GT s y n ps k O' T W := by
  obtain ⟨St, a, b, c, d, e⟩ := h
  exact ⟨St, a, b, c, d, stTab_narrow e hO⟩
theorem gt_own {s : Sch} {y n : Nat} {ps : List (List Row)} {k : Nat} {O T : Nat → Prop} {W : World} (h : GT s y n ps k O T W) : ∀ q, T q → q < W.heap.size ∧ ¬ O q := by
  obtain ⟨St, a, b, c, d, e⟩ := h
  exact stTab_own e
theorem partOk2 (s : Sch) (hs : s.Ok) (ht : s.types = [1, 1]) (l : List Row) (h1 : 1 ≤ l.length) (h2 : l.length ≤ 30) (hr : ∀ r ∈ l, RowOk s r) (ho : InOrder (cmpS s) l) : PartOk s l ∧ (partB s l).length ≤ 4000 := by
  have hp := partB_length s hs l (by omega)
  have ht2 : s.types.length = 2 := by rw [ht]; rfl
  rw [ht2] at hp
  exact ⟨⟨hs, fun t h => by rw [ht] at h; simp at h; exact .inl h, h1, by omega, hr, ho, by omega⟩, by omega⟩
theorem p1ok : PartOk s0 rows1 ∧ (partB s0 rows1).length ≤ 4000 := partOk2 s0 s0ok rfl rows1 (by decide) (by decide) (fun r hr => by
  simp only [List.mem_cons, List.not_mem_nil, or_false] at hr
  rcases hr with rfl | rfl
  · exact rowOk2 s0 rfl 1 5 (by unfold I64; omega) (by unfold I64; omega)
  · exact rowOk2 s0 rfl 2 1 (by unfold I64; omega) (by unfold I64; omega)) ((inOrder_srt (fun r hr => by
  simp only [List.mem_cons, List.not_mem_nil, or_false] at hr
  rcases hr with rfl | rfl
  · exact rowOk2 s0 rfl 1 5 (by unfold I64; omega) (by unfold I64; omega)
  · exact rowOk2 s0 rfl 2 1 (by unfold I64; omega) (by unfold I64; omega))).2 (by unfold Srt; decide))
theorem p2ok : PartOk s0 rows2 ∧ (partB s0 rows2).length ≤ 4000 := partOk2 s0 s0ok rfl rows2 (by decide) (by decide) (fun r hr => by
  simp only [List.mem_cons, List.not_mem_nil, or_false] at hr
  subst hr
  exact rowOk2 s0 rfl 1 7 (by unfold I64; omega) (by unfold I64; omega)) ((inOrder_srt (fun r hr => by
  simp only [List.mem_cons, List.not_mem_nil, or_false] at hr
  subst hr
  exact rowOk2 s0 rfl 1 7 (by unfold I64; omega) (by unfold I64; omega))).2 (by unfold Srt; decide))
abbrev okL : List UInt8 := [111, 107]
abbrev lastL : List UInt8 := [50, 10, 49, 32, 49, 50, 10, 50, 32, 49]
abbrev outs0 : List (List UInt8) := [okL, okL, okL, okL, okL, lastL]
theorem says12 (w : World) : Says w 1 (BA [49, 50]) 12 := by
  have hd : Lib.decDigits 12 = [49, 50] := by rw [K57.dec2 12 (by decide) (by decide)]; rfl
  have hp : Lib.parseIntB 64 (BA [49, 50]).data.toList = .ok (12 : Int) := by decide
  refine ⟨⟨by omega, by omega⟩, by decide, .inl ⟨rfl, fun W hW => ?_, fun W hW => ?_⟩⟩
  · refine (Tryz.strconv_ParseInt_10_at64_ok _ (by show 2 ≤ _; omega) _ hp W).mono ?_
    rintro e w' ⟨rfl, rfl | ⟨t, rfl⟩⟩
    · exact ⟨rfl, Ext.refl _⟩
    · exact ⟨rfl, bytesWorld_ext _ _ _⟩
  · refine (Tryz.strconv_FormatInt_10_small 12 (by decide) W).mono ?_
    rintro e w' ⟨rfl, rfl⟩
    exact ⟨by rw [hd], Ext.refl _⟩
theorem saysR2 (w : World) (a b : Int) (sa sb : ByteArray) (ha : Says w 1 sa a) (hb : Says w 1 sb b) : SaysR w [1, 1] [V a, V b] [sa, sb] := by
  refine ⟨rfl, rfl, fun k h h1 h2 => ?_⟩
  have hk : k < 2 := h
  match k, hk with
  | 0, _ => exact ⟨rfl, ha⟩
  | 1, _ => exact ⟨rfl, hb⟩
theorem line0 (y : Nat) (O T : Nat → Prop) (W : World) (h : StDisk y D00 O T W) (hO : ∀ q, O q → q < W.heap.size) (A : Option Addr) (c : Nat) (hl : rdStr.Sl (fun q => O q ∨ T q) W A c (tableB :: modeW s0.mode :: num1 1 :: num1 2 :: s0.types.map typeW)) :
    Calls Tryz.prog 47 #[BX y, .slice A (s0.types.length + 4) c] W fun e W' => e = .returned (.string (⟨#[111, 107]⟩)) ∧ ∃ T', GT s0 y 0 [] 1 O T' W' ∧ Keep T W W' ∧ ∀ q, T' q → T q ∨ W.heap.size ≤ q := by
  exact openNew s0 s0ok y O T W h hO (num1 1) (num1 2) (says_small 1 (by decide) W) (says_small 2 (by decide) W) A c hl
theorem line1 (y : Nat) (O T : Nat → Prop) (W : World) (h : GT s0 y 0 [] 1 O T W) (hO : ∀ q, O q → q < W.heap.size) (A : Option Addr) (c : Nat) (hl : rdStr.Sl (fun q => O q ∨ T q) W A c ([insertB, num1 1, num1 5, bar, num1 2, num1 1])) :
    Calls Tryz.prog 47 #[BX y, .slice A (6) c] W fun e W' => e = .returned (.string (⟨#[111, 107]⟩)) ∧ ∃ T', GT s0 y 1 [rows1] 2 O T' W' ∧ Keep T W W' ∧ ∀ q, T' q → T q ∨ W.heap.size ≤ q := by
  refine (insGT s0 s0ok y 0 [] 1 (by decide) (by decide) O T W h hO A c [num1 1, num1 5, bar, num1 2, num1 1] (by decide) hl rows1 [[num1 1, num1 5], [num1 2, num1 1]] rfl rfl ?_ (by rw [sort1]; exact p1ok.1) (by rw [sort1]; exact p1ok.2) p1ok.1.rows (by decide) (by decide) (by decide)).mono ?_
  · intro j h1 h2
    have hj : j < 2 := h1
    match j, hj with
    | 0, _ => exact ⟨saysR2 W 1 5 _ _ (says_small 1 (by decide) W) (says_small 5 (by decide) W), show ∀ x ∈ [num1 1, num1 5], x ≠ bar from by decide⟩
    | 1, _ => exact ⟨saysR2 W 2 1 _ _ (says_small 2 (by decide) W) (says_small 1 (by decide) W), show ∀ x ∈ [num1 2, num1 1], x ≠ bar from by decide⟩
  · rintro e w' ⟨rfl, T', hT, hK, hN⟩
    rw [sort1] at hT
    exact ⟨rfl, T', hT, hK, hN⟩
theorem line2 (y : Nat) (O T : Nat → Prop) (W : World) (h : GT s0 y 1 [rows1] 2 O T W) (hO : ∀ q, O q → q < W.heap.size) (A : Option Addr) (c : Nat) (hl : rdStr.Sl (fun q => O q ∨ T q) W A c ([insertB, num1 1, num1 7])) :
    Calls Tryz.prog 47 #[BX y, .slice A (3) c] W fun e W' => e = .returned (.string (⟨#[111, 107]⟩)) ∧ ∃ T', GT s0 y 2 [rows1, rows2] 3 O T' W' ∧ Keep T W W' ∧ ∀ q, T' q → T q ∨ W.heap.size ≤ q := by
  refine (insGT s0 s0ok y 1 [rows1] 2 (by decide) (by decide) O T W h hO A c [num1 1, num1 7] (by decide) hl rows2 [[num1 1, num1 7]] rfl rfl ?_ (by rw [sort2]; exact p2ok.1) (by rw [sort2]; exact p2ok.2) p2ok.1.rows (by decide) (by decide) (by decide)).mono ?_
  · intro j h1 h2
    have hj : j < 1 := h1
    match j, hj with
    | 0, _ => exact ⟨saysR2 W 1 7 _ _ (says_small 1 (by decide) W) (says_small 7 (by decide) W), show ∀ x ∈ [num1 1, num1 7], x ≠ bar from by decide⟩
  · rintro e w' ⟨rfl, T', hT, hK, hN⟩
    rw [sort2] at hT
    exact ⟨rfl, T', hT, hK, hN⟩
theorem line3 (y : Nat) (O T : Nat → Prop) (W : World) (h : GT s0 y 2 [rows1, rows2] 3 O T W) (hO : ∀ q, O q → q < W.heap.size) (A : Option Addr) (c : Nat) (hl : rdStr.Sl (fun q => O q ∨ T q) W A c ([crashB, num1 0])) :
    Calls Tryz.prog 47 #[BX y, .slice A (2) c] W fun e W' => e = .returned (.string (⟨#[111, 107]⟩)) ∧ ∃ T', GD s0 y 2 [rows1, rows2] 3 O T' W' ∧ Keep T W W' ∧ ∀ q, T' q → T q ∨ W.heap.size ≤ q := by
  exact crashGT s0 y 2 [rows1, rows2] 3 O T W h hO A c [num1 0] (by decide) hl 0 (by decide) [] (fun t ht => by cases ht) ⟨rfl, fun j h1 h2 => by
    have hj : j < 1 := h1
    match j, hj with
    | 0, _ => exact ⟨says_small 0 (by decide) W, show (0 : Int) ≤ 0 from by decide, show (0 : Int) ≤ 999999 from by decide⟩⟩
theorem line4 (y : Nat) (O T : Nat → Prop) (W : World) (h : GD s0 y 2 [rows1, rows2] 3 O T W) (hO : ∀ q, O q → q < W.heap.size) (A : Option Addr) (c : Nat) (hl : rdStr.Sl (fun q => O q ∨ T q) W A c (tableB :: modeW s0.mode :: num1 1 :: num1 2 :: s0.types.map typeW)) :
    Calls Tryz.prog 47 #[BX y, .slice A (s0.types.length + 4) c] W fun e W' => e = .returned (.string (⟨#[111, 107]⟩)) ∧ ∃ T', GP s0 y [rows1, rows2] O T' W' ∧ Keep T W W' ∧ ∀ q, T' q → T q ∨ W.heap.size ≤ q := by
  exact openOld s0 s0ok y 2 (by decide) [rows1, rows2] rfl (fun x hx => by
    simp only [List.mem_cons, List.not_mem_nil, or_false] at hx
    rcases hx with rfl | rfl
    · exact p1ok.1
    · exact p2ok.1) 3 (by decide) O T W h hO (num1 1) (num1 2) (says_small 1 (by decide) W) (says_small 2 (by decide) W) A c hl
theorem line5 (y : Nat) (O T : Nat → Prop) (W : World) (h : GP s0 y [rows1, rows2] O T W) (hO : ∀ q, O q → q < W.heap.size) (A : Option Addr) (c : Nat) (hl : rdStr.Sl (fun q => O q ∨ T q) W A c ([getB, finalB])) :
    Calls Tryz.prog 47 #[BX y, .slice A (2) c] W fun e W' => e = .returned (.string (BA lastL)) ∧ ∃ T', GP s0 y [rows1, rows2] O T' W' ∧ Keep T W W' ∧ ∀ q, T' q → T q ∨ W.heap.size ≤ q := by
  have h0 := h
  obtain ⟨St, hs, hps, hSt⟩ := h
  have hgoal : joinL (tells [[V 1, V 12], [V 2, V 1]] [[num1 1, BA [49, 50]], [num1 2, num1 1]]) ⟨#[10]⟩ = lastL := by
    have : Lib.decDigits 2 = [50] := by rw [K57.dec1 2 (by decide)]; rfl
    show joinL (⟨(Lib.decDigits 2).toArray⟩ :: _) _ = _
    rw [this]
    decide
  refine (lineGet y St O T W hSt hO (by rw [hs]; exact s0ok) A c hl (by rw [hps]; decide) (by rw [hps]; decide) ?_ [[V 1, V 12], [V 2, V 1]] (by rw [hs, hps]; exact told0.symm) (by decide) [[num1 1, BA [49, 50]], [num1 2, num1 1]] rfl ?_ (by rw [hgoal]; decide)).mono ?_
  · rw [hs, hps]
    intro x hx
    simp only [List.mem_cons, List.not_mem_nil, or_false] at hx
    rcases hx with rfl | rfl
    · exact ⟨(inOrder_srt p1ok.1.rows).1 p1ok.1.ord, p1ok.1.rows⟩
    · exact ⟨(inOrder_srt p2ok.1.rows).1 p2ok.1.ord, p2ok.1.rows⟩
  · rw [hs]
    intro j h1 h2
    have hj : j < 2 := h1
    match j, hj with
    | 0, _ => exact ⟨saysR2 W 1 12 _ _ (says_small 1 (by decide) W) (says12 W), show (joinL [num1 1, BA [49, 50]] ⟨#[32]⟩).length ≤ 1000000000 from by decide⟩
    | 1, _ => exact ⟨saysR2 W 2 1 _ _ (says_small 2 (by decide) W) (says_small 1 (by decide) W), show (joinL [num1 2, num1 1] ⟨#[32]⟩).length ≤ 1000000000 from by decide⟩
  · rintro e w' ⟨rfl, T', hT, hK, hN⟩
    refine ⟨by rw [hgoal], T', ⟨St, hs, hps, hT⟩, hK, hN⟩
theorem deskSS (y : Nat) : Desk y outs0 ws0 (SS y) := by
  refine ⟨?_, ?_, ?_, ?_⟩
  · intro k O T W W' h K
    match k, h with
    | 0, h => exact stDisk_keep h K
    | 1, h => exact gt_keep (s := s0) h K
    | 2, h => exact gt_keep (s := s0) h K
    | 3, h => exact gt_keep (s := s0) h K
    | 4, h => obtain ⟨D, a, b, c⟩ := h; exact ⟨D, a, b, stDisk_keep c K⟩
    | n + 5, h => obtain ⟨St, a, b, c⟩ := h; exact ⟨St, a, b, stTab_keep c K⟩
  · intro k O O' T W h hO
    match k, h with
    | 0, h => exact stDisk_narrow h hO
    | 1, h => exact gt_narrow (s := s0) h hO
    | 2, h => exact gt_narrow (s := s0) h hO
    | 3, h => exact gt_narrow (s := s0) h hO
    | 4, h => obtain ⟨D, a, b, c⟩ := h; exact ⟨D, a, b, stDisk_narrow c hO⟩
    | n + 5, h => obtain ⟨St, a, b, c⟩ := h; exact ⟨St, a, b, stTab_narrow c hO⟩
  · intro k O T W h
    match k, h with
    | 0, h => exact stDisk_own h
    | 1, h => exact gt_own (s := s0) h
    | 2, h => exact gt_own (s := s0) h
    | 3, h => exact gt_own (s := s0) h
    | 4, h => obtain ⟨D, a, b, c⟩ := h; exact stDisk_own c
    | n + 5, h => obtain ⟨St, a, b, c⟩ := h; exact stTab_own c
  · intro k hk hk2 O T W A c h hO hl
    have hk6 : k < 6 := hk
    obtain rfl | rfl | rfl | rfl | rfl | rfl : k = 0 ∨ k = 1 ∨ k = 2 ∨ k = 3 ∨ k = 4 ∨ k = 5 := by omega
    · exact line0 y O T W h hO A c hl
    · exact line1 y O T W h hO A c hl
    · exact line2 y O T W h hO A c hl
    · exact line3 y O T W h hO A c hl
    · exact line4 y O T W h hO A c hl
    · exact line5 y O T W h hO A c hl
end K107
namespace K110
open Go Go.RowKit
open KB KB2 P2 K1 K2 K3 K17 P5 P6 P8 P9 K25 K35 K38 K42 K54 K55 K56 K57 K58 K31 K65 K70 K71 K72 K75 K77 K81 K87 K88 K89 K91 K92 K93 K94 K95 K97 K5 P3 P4 P7 P10 P11 K67 K68 K79 K85 K86 K104 K105 K106 K107 K109
set_option linter.unusedVariables false
set_option linter.unusedSimpArgs false
set_option maxHeartbeats 2000000
set_option maxRecDepth 100000
abbrev s1 : Sch := ⟨[1, 1], 1, 2, 2⟩
theorem s1ok : s1.Ok := by constructor <;> decide
abbrev snd : Row → Row → Row := fun _ b => b
theorem row_cases {r : Row} (h : RowOk s1 r) : ∃ a b : Int, I64 a ∧ I64 b ∧ r = [V a, V b] := by
  obtain ⟨hl, hv⟩ := h
  match r, hl with
  | [x, y], _ =>
    have h0 := hv 0 (by decide) (by simp)
    have h1 := hv 1 (by decide) (by simp)
    obtain ⟨a, sa⟩ := x
    obtain ⟨b, sb⟩ := y
    have e0 : sa = emp := by
      rcases h0.2 with ⟨_, e⟩ | ⟨e, _⟩
      · exact e
      · exact absurd e (by decide)
    have e1 : sb = emp := by
      rcases h1.2 with ⟨_, e⟩ | ⟨e, _⟩
      · exact e
      · exact absurd e (by decide)
    subst e0 e1
    exact ⟨a, b, h0.1, h1.1, rfl⟩
theorem one_eq (o r : Row) (h : RowOk s1 r) : oneS s1 o r = r := by
  obtain ⟨a, b, _, _, rfl⟩ := row_cases h
  rfl
theorem fold_eq (c : Row → Row → Int) (l : List Row) : (∀ r ∈ l, RowOk s1 r) → foldL c (oneS s1) l = foldL c snd l := by
  refine snoc_rec (M := fun l => (∀ r ∈ l, RowOk s1 r) → foldL c (oneS s1) l = foldL c snd l) (fun _ => rfl) (fun l r ih h => ?_) l
  have h0 := ih (fun x hx => h x (List.mem_append_left _ hx))
  have hr := h r (by simp)
  rw [foldL_snoc, foldL_snoc, h0]
  rcases snoc_cases (foldL c snd l) with e | ⟨m, o, e⟩
  · rw [e]; rfl
  · rw [e, foldStep_snoc, foldStep_snoc, one_eq o r hr]
/-- A table, and what came into it. -/
def GS (F : Nat → Prop) (tg dg mg : Nat) (hist : List Row) (n K : Nat) (pv : Value) (W : World) : Prop :=
  ∃ St lg k, StoreAt F W tg dg mg pv St ∧ TN s1 St lg k ∧ Inv (cmpS s1) (RowOk s1) hist St.parts ∧ St.parts.flatten.length ≤ hist.length ∧ St.parts.length ≤ hist.length ∧ St.next ≤ n ∧ k ≤ K
theorem gs_ext {F : Nat → Prop} {tg dg mg : Nat} {hist : List Row} {n K : Nat} {pv : Value} {W W' : World} (h : GS F tg dg mg hist n K pv W) (hE : Ext W W') : GS F tg dg mg hist n K pv W' := by
  obtain ⟨St, lg, k, h1, h2⟩ := h
  exact ⟨St, lg, k, h1.ext hE, h2⟩
theorem gs_mono {F : Nat → Prop} {tg dg mg : Nat} {hist : List Row} {n n' K K' : Nat} {pv : Value} {W : World} (h : GS F tg dg mg hist n K pv W) (hn : n ≤ n') (hK : K ≤ K') : GS F tg dg mg hist n' K' pv W := by
  obtain ⟨St, lg, k, h1, h2, h3, h4, h5, h6, h7⟩ := h
  exact ⟨St, lg, k, h1, h2, h3, h4, h5, by omega, by omega⟩
theorem sumL_flat (ps : List (List Row)) : sumL ps = ps.flatten.length := by simp [sumL, List.length_flatten]
theorem part_len {ps : List (List Row)} {x : List Row} (h : x ∈ ps) : x.length ≤ ps.flatten.length := by
  obtain ⟨j, hj, rfl⟩ := List.getElem_of_mem h
  have := List.sublist_flatten_of_mem (List.getElem_mem hj)
  exact this.length_le
theorem insT (F : Nat → Prop) (tg dg mg : Nat) (hist : List Row) (n K : Nat) (pv : Value) (W : World) (h : GS F tg dg mg hist n K pv W) (hh : hist.length < 30) (hn : n < 69) (hK : K < 100) (r : Row) (hr : RowOk s1 r) (A : Option Addr) (c : Nat) (hrows : rdRow.Sl (Fv (SF F tg dg mg) pv) W A c [r]) (hF : ∀ k, F k → k < W.heap.size) :
    Calls Tryz.prog 9 #[PX tg, .slice A 1 c] W fun e w' => e = .returned (.int .i64 0) ∧ ∃ pv', GS F tg dg mg (hist ++ [r]) (n + 1) (K + 1) pv' w' ∧ (∀ k, pv'.ownBlock = some k → pv.ownBlock = some k ∨ W.heap.size ≤ k) ∧ Keep (SB tg dg mg pv) W w' := by
  obtain ⟨St, lg, k, hSt, hT, hI, h4, h5, h6, h7⟩ := h
  obtain ⟨li, hli, hlf⟩ := hT.holds.log_
  have hsc := hT.sch
  have hus := hT.room.used
  have hq := hT.room.quota
  have hlm := hT.room.lim
  have hnm := hT.room.names
  have hlg := hT.lgl
  have hnot : (St.next : Int) ∉ St.ids := fun e => by have := hT.nx _ e; omega
  have hrl : (recAdd St.next).length = 7 := recAdd_len _ (by omega)
  have hfr := hT.holds.fresh (id := St.next) (by omega) hnot
  have hne := hT.holds.noEmp
  have hso : sortS s1 [r] = [r] := rfl
  have hp := partOk2 s1 s1ok rfl [r] (by simp) (by simp) (fun x hx => by simp at hx; subst hx; exact hr) ((inOrder_srt (fun x hx => by simp at hx; subst hx; exact hr)).2 (List.pairwise_singleton _ _))
  have hin : St.ids.length ≤ 30 := by rw [hT.len]; omega
  have hT2 := tn_ins hT (by omega) [r] (by rw [hso]; exact hp.2) li hli
  obtain ⟨ss, ids, next, parts, D⟩ := St
  dsimp only at hsc
  subst hsc
  refine (insertC F tg dg mg pv ⟨s1, ids, next, parts, D⟩ s1ok [r] (by rw [hso]; exact hp.1) (fun x hx => by simp at hx; subst hx; exact hr) (by simp) (by simp) W hSt (by dsimp only at h6 ⊢; omega) (by dsimp only at h5 ⊢; omega) (by dsimp only at hin ⊢; omega) (by rw [sumL_flat]; dsimp only at h4 ⊢; simp only [List.length_cons, List.length_nil]; omega) (fun m hm => (hT.nx m hm).2) (by dsimp only at hlm ⊢; omega) (by dsimp only at hnm ⊢; omega) hfr hne.1 li hli lg _ hlf ?_ ?_ A c hrows hF).mono ?_
  · rw [hso, hq, hrl]
    have : k * 4000 ≤ 100 * 4000 := Nat.mul_le_mul_right _ (by omega)
    have := hp.2
    dsimp only at hus hq ⊢
    omega
  · rw [hrl]
    dsimp only at hlg h6 ⊢
    omega
  · rintro e w' ⟨rfl, pv', hs', hpv, hKp⟩
    refine ⟨rfl, pv', ⟨_, _, k + 1, hs', hT2, ?_, ?_, ?_, ?_, ?_⟩, hpv, hKp⟩
    · exact hI.insert hr
    · show (parts ++ [[r]]).flatten.length ≤ _
      rw [List.flatten_append, List.length_append, List.length_append]
      dsimp only at h4
      exact Nat.add_le_add h4 (Nat.le_refl _)
    · show (parts ++ [[r]]).length ≤ _
      rw [List.length_append, List.length_append]
      dsimp only at h5
      simp; exact h5
    · show next + 1 ≤ n + 1
      dsimp only at h6
      omega
    · omega
theorem split3 {α : Type} (l : List α) (f t : Nat) (h : f ≤ t) : l = l.take f ++ (l.take t).drop f ++ l.drop t := by
  have e : l.take f = (l.take t).take f := by rw [List.take_take, Nat.min_eq_left h]
  rw [e, List.take_append_drop, List.take_append_drop]
theorem mergeT (F : Nat → Prop) (tg dg mg : Nat) (hist : List Row) (n K : Nat) (pv : Value) (W : World) (h : GS F tg dg mg hist n K pv W) (hh : hist.length ≤ 30) (hn : n < 69) (hK : K < 100) (hF : ∀ k, F k → k < W.heap.size) (f t : Nat) (hft : f + 2 ≤ t)
    (St : StM) (lg : List Int) (k : Nat) (hSt : StoreAt F W tg dg mg pv St) (hT : TN s1 St lg k) (hI : Inv (cmpS s1) (RowOk s1) hist St.parts) (h4 : St.parts.flatten.length ≤ hist.length) (h5 : St.parts.length ≤ hist.length) (h6 : St.next ≤ n) (h7 : k ≤ K) (ht : t ≤ St.parts.length) :
    Calls Tryz.prog 32 #[PX tg, .int .i64 f, .int .i64 t] W fun e w' => e = .returned (.int .i64 0) ∧ ∃ pv', GS F tg dg mg hist (n + 1) (K + 2) pv' w' ∧ pv'.ownBlock = pv.ownBlock ∧ Keep (SB tg dg mg pv) W w' := by
  obtain ⟨li, hli, hlf⟩ := hT.holds.log_
  have hsc := hT.sch
  have hus := hT.room.used
  have hq := hT.room.quota
  have hlm := hT.room.lim
  have hnm := hT.room.names
  have hlg := hT.lgl
  have hnot : (St.next : Int) ∉ St.ids := fun e => by have := hT.nx _ e; omega
  have hfr := hT.holds.fresh (id := St.next) (by omega) hnot
  have hne := hT.holds.noEmp
  obtain ⟨B, hB⟩ : ∃ B, (St.parts.take t).drop f = B := ⟨_, rfl⟩
  obtain ⟨b, hb⟩ : ∃ b, (St.ids.take t).drop f = b := ⟨_, rfl⟩
  have hBl : B.length = t - f := by rw [← hB, List.length_drop, List.length_take]; omega
  have hbl : b.length = t - f := by rw [← hb, List.length_drop, List.length_take, hT.len]; omega
  have hpsp := split3 St.parts f t (by omega)
  have hisp := split3 St.ids f t (by omega)
  rw [hB] at hpsp
  rw [hb] at hisp
  have hBn : B ≠ [] := fun e => by rw [e] at hBl; simp at hBl; omega
  have hI1 := hI
  rw [hpsp] at hI1
  have hI2 := hI1.merge (cmpS_ord s1) hBn
  obtain ⟨new, hnew⟩ : ∃ new, foldL (cmpS s1) snd (mergeR (cmpS s1) B) = new := ⟨_, rfl⟩
  have hI3 : Inv (cmpS s1) (RowOk s1) hist (St.parts.take f ++ [new] ++ St.parts.drop t) := by rw [← hnew]; exact hI2
  have hmem : new ∈ St.parts.take f ++ [new] ++ St.parts.drop t := by simp
  have hBm : ∀ x ∈ B, x ∈ St.parts := fun x hx => by rw [hpsp]; simp [hx]
  obtain ⟨m1, m2, m3⟩ := mergeR_ok (cmpS_ord s1) B (fun x hx => ⟨hI.srt x (hBm x hx), hI.all x (hBm x hx)⟩)
  have hPm : ∀ r ∈ mergeR (cmpS s1) B, RowOk s1 r := fun r hr => by
    obtain ⟨x, hx, hr2⟩ := List.mem_flatten.1 (m1.mem_iff.1 hr)
    exact hI.all x (hBm x hx) r hr2
  have hone : OneOk (cmpS s1) (RowOk s1) snd := fun a b ha hb e => ⟨hb, (cmpS_ord s1).zero ha hb e⟩
  obtain ⟨f1, f2, f3, f4, f5⟩ := foldL_ok (cmpS_ord s1) hone (mergeR (cmpS s1) B) hPm m2
  have hnl : new.length ≤ B.flatten.length := by rw [← hnew, ← m1.length_eq]; exact f3
  have hflat : St.parts.flatten.length = (St.parts.take f).flatten.length + B.flatten.length + (St.parts.drop t).flatten.length := by
    conv => lhs; rw [hpsp]
    simp only [List.flatten_append, List.length_append]
  have hn1 : 1 ≤ new.length := by
    have := hI3.ne new hmem
    cases new with
    | nil => exact absurd rfl this
    | cons x l => simp
  have hp := partOk2 s1 s1ok rfl new hn1 (by omega) (hI3.all new hmem) ((inOrder_srt (hI3.all new hmem)).2 (hI3.srt new hmem))
  have hpl : St.parts.length ≤ 30 := by omega
  have hil : St.ids.length ≤ 30 := by rw [hT.len]; exact hpl
  have hTm := tn_merge hT (by omega) (St.ids.take f) b (St.ids.drop t) (St.parts.take f) B (St.parts.drop t) hisp hpsp (by rw [List.length_take, List.length_take, hT.len]) (by rw [hbl, hBl]) (by omega) new hp.2 li hli
  have hswl := recSwap_len b (by omega) (fun m hm => by have := hT.holds.rng m (by rw [hisp]; simp [hm]); omega) St.next (by omega)
  have hSF := SFlt hSt hF
  have hge := hSt.parts.ge
  have hFP : ∀ k, Fv (SF F tg dg mg) pv k → k < W.heap.size := fun k q => q.elim (hSF k) (fun q => (hge k q).2)
  have hpb := hp.2
  have hkk : k * 4000 ≤ 100 * 4000 := Nat.mul_le_mul_right _ (by omega)
  refine (mergeSC F tg dg mg pv St (by rw [hsc]; exact s1ok) f t hft ht hT.len (by omega) W hSt new (by rw [hsc]; exact hp.1) (fun x hx => ⟨?_, fun r hr => ?_⟩) ?_ b hb.symm (fun m hm => hT.holds.rng m (by rw [hisp]; simp [hm])) ?_ (by omega) (by omega) (by omega) hfr hne.1 li hli lg _ hlf ?_ ?_ ?_ hF).mono ?_
  · have := part_len hx; omega
  · have := (hI.all x hx r hr).len
    rw [this]; decide
  · intro W1 Ax cx A c hE hA hl
    rw [hB] at hl ⊢
    rw [hsc] at hA ⊢
    have := foldedC (Fv (SF F tg dg mg) pv) Ax cx s1 s1ok (by decide) A c B W1 hA hl (by omega) (by omega) (fun x hx => hI.all x (hBm x hx)) hPm (by rw [m1.length_eq]; omega) (FExt hFP hE)
    rw [fold_eq _ _ hPm, hnew] at this
    exact this
  · intro i hi h1 h0 e
    have e2 : b[0] = St.ids[f]'(by rw [hT.len]; omega) := by
      simp only [← hb, List.getElem_drop, List.getElem_take, Nat.add_zero]
    rw [e2] at e
    have := (List.getElem_inj hT.nd).1 e
    omega
  · rw [hsc, hq]; omega
  · omega
  · intro j hj
    rw [hsc]
    exact hTm.2 j hj
  · rintro e w' ⟨rfl, pv', hs', hpo, hKp⟩
    rw [hsc] at hs'
    refine ⟨rfl, pv', ⟨_, _, k + 2, hs', hTm.1, hI3, ?_, ?_, ?_, ?_⟩, hpo, hKp⟩
    · show (St.parts.take f ++ [new] ++ St.parts.drop t).flatten.length ≤ _
      simp only [List.flatten_append, List.length_append, List.flatten_cons, List.flatten_nil, List.append_nil]
      omega
    · show (St.parts.take f ++ [new] ++ St.parts.drop t).length ≤ _
      simp only [List.length_append, List.length_take, List.length_drop, List.length_cons, List.length_nil]
      omega
    · show St.next + 1 ≤ n + 1
      omega
    · omega
theorem stepT (F : Nat → Prop) (tg dg mg : Nat) (hist : List Row) (n K : Nat) (pv : Value) (W : World) (h : GS F tg dg mg hist n K pv W) (hh : hist.length ≤ 30) (hn : n < 69) (hK : K < 100) (hF : ∀ k, F k → k < W.heap.size) :
    Calls Tryz.prog 10 #[PX tg] W fun e w' => (∃ b : Bool, e = .returned (.tuple #[.bool b, .int .i64 0])) ∧ ∃ pv', GS F tg dg mg hist (n + 1) (K + 2) pv' w' ∧ (∀ k, pv'.ownBlock = some k → pv.ownBlock = some k ∨ W.heap.size ≤ k) ∧ Keep (SB tg dg mg pv) W w' := by
  have h0 := h
  obtain ⟨St, lg, k, hSt, hT, hI, h4, h5, h6, h7⟩ := h
  refine stepSC F tg dg mg pv St W hSt (by omega) (fun l hl => by have := part_len hl; omega) hF _ (fun W1 hE => ⟨pv, gs_mono (gs_ext h0 hE) (by omega) (by omega), fun k e => .inl e, hE.keep _⟩) (fun f t hft ht W1 hE => ?_)
  refine (mergeT F tg dg mg hist n K pv W1 (gs_ext h0 hE) hh hn hK (FExt hF hE) f t hft St lg k (hSt.ext hE) hT hI h4 h5 h6 h7 ht).mono ?_
  rintro e w' ⟨rfl, pv', hG, hpo, hKp⟩
  exact ⟨rfl, pv', hG, fun k e => .inl (hpo ▸ e), hKp.pre hE⟩
end K110
namespace K108
open Go Go.RowKit
open KB KB2 P2 K1 K2 K3 K17 P5 P6 P8 P9 K25 K35 K38 K42 K54 K55 K56 K57 K58 K31 K65 K70 K71 K72 K75 K77 K81 K87 K88 K89 K91 K92 K93 K94 K95 K97 K98 K99 K101 K106 K107
set_option linter.unusedVariables false
set_option linter.unusedSimpArgs false
set_option maxHeartbeats 2000000
set_option maxRecDepth 100000
theorem runShown (w : World) : Calls Tryz.prog 20 #[.string (BA src0)] w fun e w' => e = .returned (.string (BA (toldL outs0))) ∧ Ext w w' := by
  refine runC src0 (by decide) outs0 ws0 (by rw [len0]; rfl) (by rw [len0]; rfl) (by rw [len0]; decide) ?_ (by decide) w ?_
  · intro k h h2
    have hk : k < 6 := by rw [← len0]; exact h
    have e : (wds (linesL src0)[k]).map BA = ws0[k] := by
      have := congrArg (fun l => l[k]?) lines0
      simp only [List.getElem?_map, List.getElem?_eq_getElem h, List.getElem?_eq_getElem h2, Option.map_some, Option.some.injEq] at this
      exact this
    have hlen : ∀ x ∈ ws0, x.length ≤ 1000 ∧ 1 ≤ x.length := by decide
    have hm := List.getElem_mem h2
    exact ⟨e, marks0 _ (List.getElem_mem h), (hlen _ hm).1, (hlen _ hm).2, lens0 _ (List.getElem_mem h)⟩
  · intro W db dg mg O hE hD hb h1 h2 h3 h4 h5
    refine ⟨SS db, fun q => q = db ∨ q = dg ∨ q = mg, deskSS db, ⟨dg, mg, _, _, _, _, hD, hb, h4, rfl⟩, ?_⟩
    rintro q (rfl | rfl | rfl)
    · exact h1
    · exact h2
    · exact h3
theorem shownC (w : World) : Calls Tryz.prog 7 #[] w fun e w' => e = .returned (.bool true) ∧ Ext w w' := by
  have HR := As.mk (runShown w)
  have e1 : toldL outs0 = [111, 107, 10, 111, 107, 10, 111, 107, 10, 111, 107, 10, 111, 107, 10, 50, 10, 49, 32, 49, 50, 10, 50, 32, 49, 10] := by decide
  rw [e1] at HR
  go_enter Tryz.func7, Tryz.ntmps7
  go_wp2_with (fail)
  refine HR.out.mono ?_; rintro e w1 ⟨rfl, hE⟩
  go_wp2_with (fail)
  go_ret
  exact ⟨rfl, hE⟩
end K108
end Go.Proofs.YtbjeejimedhniaaGreatDoor
