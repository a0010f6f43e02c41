/- Contracts of the program's functions, as the walks of the law use them. -/
import Derived.Test.YtbjeejimedhniaaGreatDoorD20
import Derived.Test.YtbjeejimedhniaaGreatDoorD14
set_option linter.unusedVariables false
set_option linter.unusedSimpArgs false
set_option maxRecDepth 100000
set_option maxHeartbeats 2000000
namespace Go.Proofs.YtbjeejimedhniaaGreatDoor
namespace K94
open Go Go.RowKit KB KB2 K65 K1 K2 K9 K29 K42 K70 K88 K89 K90 K91 K92 K93
section
variable {α : Type} {P : Program} {ops : Array Oper} {rest : List Oper} {o : Oper} {a : Act} {Q : Exit → Act → World → Prop} {w : World}
theorem wpList_clip (hgd : o.guard = none) (s x : Operand) (t : TypeId) (ho : o.op = .call { callee := .builtin .append, args := #[s, x], argTypes := #[t, t] })
   (R : Rd α) {F : Nat → Prop} {e : TypeId} {bytes : Nat} (hE : El P t e R.sz bytes) {A : Option Addr} {n : Nat} {l : List α} (hs : a.eval s = .slice A n n) (hn : n = l.length) (hl : R.Sl F w A n l)
   {g : Nat} {c : Nat} (hx : a.eval x = .slice (some ⟨g, 0, none⟩) 1 c) {cs : Array Value} {te : TypeId} {fr : Nat × Nat} (hc : w.heap[g]? = some (.cells cs te fr)) {y : α} (hy : R.C F w cs.toList y)
   (hlen : (l.length + 1) * bytes ≤ 140737488355328) (hl2 : l.length + 1 ≤ maxLen)
   (h : ∀ v' w', R.Own F w.heap.size e w' v' (l ++ [y]) → Ext w w' → wpList P ops Q rest (a.put o.dst v') w') : wpList P ops Q (o :: rest) a w :=
 wpList_plain hgd fun K hK => by
   have hwt : Region.wanted o (yielded ops a.tmps) = true := by simp [Region.wanted, hgd]
   have h9 := step_clip (K := K) (E := False) (ops := ops) (Q := Q) hgd s x t ho R hE hs hn hl hx hc hy hlen hl2 (fun v' w' h1 h2 => hK _ _ (h v' w' h1 h2))
   rwa [if_pos hwt] at h9
end
abbrev bar : ByteArray := ⟨#[124]⟩
def barred : List (List ByteArray) → List ByteArray
 | [] => []
 | ss :: t => ss ++ bar :: barred t
def remd (sss : List (List ByteArray)) (k j : Nat) : List ByteArray :=
 match sss.drop k with
 | [] => []
 | ss :: t => ss.drop j ++ bar :: barred t
theorem drop_out {α : Type} {l : List α} {i : Nat} {x : α} {r : List α} (h : l.drop i = x :: r) : ∃ hi : i < l.length, l[i] = x ∧ l.drop (i + 1) = r := by
 have hi : i < l.length := by
   rcases Nat.lt_or_ge i l.length with q | q
   · exact q
   · rw [List.drop_of_length_le q] at h; cases h
 refine ⟨hi, ?_⟩
 rw [List.drop_eq_getElem_cons hi] at h
 exact ⟨(List.cons.inj h).1, (List.cons.inj h).2⟩
theorem remd_end (sss : List (List ByteArray)) (j : Nat) : remd sss sss.length j = [] := by unfold remd; rw [List.drop_length]
theorem remd_mid (sss : List (List ByteArray)) (k j : Nat) (hk : k < sss.length) (hj : j < sss[k].length) : remd sss k j = sss[k][j] :: remd sss k (j + 1) := by
 unfold remd
 rw [List.drop_eq_getElem_cons hk]
 simp only
 rw [List.drop_eq_getElem_cons hj, List.cons_append]
theorem remd_bar (sss : List (List ByteArray)) (k j : Nat) (hk : k < sss.length) (hj : sss[k].length ≤ j) : remd sss k j = bar :: remd sss (k + 1) 0 := by
 unfold remd
 rw [List.drop_eq_getElem_cons hk]
 simp only
 rw [List.drop_of_length_le hj, List.nil_append]
 congr 1
 cases h : sss.drop (k + 1) with
 | nil => rfl
 | cons ss t => simp [barred]
theorem remd_all (sss : List (List ByteArray)) : barred sss = remd sss 0 0 := by
 cases sss with
 | nil => rfl
 | cons ss t => simp [remd, barred]
theorem own_shut2 {F F' : Nat → Prop} {B : Nat} {e : TypeId} {w : World} {v : Value} {l : List Val} (h : rdVal.Own F B e w v l) (hF : ∀ g, v.ownBlock = some g → ¬ F' g) : ∃ A c, v = .slice A l.length c ∧ rdVal.Sl F' w A c l := by
 obtain ⟨xs, ho, hC⟩ := h
 rcases ho.2 with ⟨rfl, hn⟩ | ⟨g, cap, cur, rfl, hb, hg, hnc, hcm, hcs, htake⟩
 · obtain rfl : l = [] := List.eq_nil_of_length_eq_zero hn
   exact ⟨none, 0, rfl, Rd.Sl.nil0 _ _ w⟩
 · refine ⟨some ⟨g, 0, none⟩, cap, rfl, hnc, hcm, (fun h => by cases h), fun k x hk => ⟨g, 0, rfl, hF g rfl, _, hC k x hk, fun j u hj => ?_⟩⟩
   have hj' : j < rdVal.sz := by have := (List.getElem?_eq_some_iff.1 hj).1; simp at this; omega
   have := ho.cells (g := g) rfl (k * rdVal.sz + j) u (by rw [List.getElem?_take, if_pos hj', List.getElem?_drop] at hj; exact hj)
   rw [Addr.add_lit] at this
   rw [← this]; congr 2; omega
theorem at_split {w : World} {v v' : Value} (h : At' w v v') : ∀ q, v'.ownBlock = some q → v.ownBlock = some q ∨ w.heap.size ≤ q := fun q hq => by
 rcases h with e | e
 · exact .inl (e ▸ hq)
 · rw [e] at hq; cases hq; exact .inr (Nat.le_refl _)
theorem rows_push {G : Nat → Prop} {B : Nat} {e : TypeId} {w w' : World} {v5 v6 v6' : Value} {l : List Row} (h : rdRow.Own (Fv G v6) B e w v5 l) (hg : w.grownBy w' v6.ownBlock) (hat : At' w v6 v6') (hne : ∀ q, v5.ownBlock = some q → ¬ v6.ownBlock = some q) :
   rdRow.Own (Fv G v6') B e w' v5 l ∧ ∀ q, v5.ownBlock = some q → ¬ v6'.ownBlock = some q := by
 have hge := h.ge
 have hat' := at_split hat
 have h1 := own_narrow (G := fun q => Fv G v6 q ∨ w.heap.size ≤ q) h (fun k hk q => q.elim id (fun q => by omega))
 have k1 : Keep (Fv (fun q => Fv G v6 q ∨ w.heap.size ≤ q) v5) w w' := Keep.of_grown hg (fun j hj _ => .inl (.inl (.inr hj)))
 have h2 := h1.keep2 k1 (fun j hj => hg.block j (hge j hj).2 (fun e => hne j hj e.symm))
 refine ⟨own_narrow h2 (fun k hk q => q.elim (fun q => .inl (.inl q)) (fun q => (hat' k q).elim (fun q => .inl (.inr q)) .inr)), fun q h5 h6 => ?_⟩
 rcases hat' q h6 with a | a
 · exact hne q h5 a
 · have := (hge q h5).2; omega
theorem own_free_str {F G : Nat → Prop} {B : Nat} {e : TypeId} {w : World} {v : Value} {l : List ByteArray} (h : rdStr.Own F B e w v l) : rdStr.Own G B e w v l := by
 obtain ⟨xs, ho, hC⟩ := h
 exact ⟨xs, ho, hC⟩
theorem own_free_narrow {F G : Nat → Prop} {B : Nat} {e : TypeId} {w : World} {v : Value} {l : List Val} (h : rdVal.Own F B e w v l) : rdVal.Own G B e w v l := by
 obtain ⟨xs, ho, hC⟩ := h
 exact ⟨xs, ho, hC⟩
theorem barred_len : ∀ sss : List (List ByteArray), sss.length ≤ (barred sss).length
 | [] => Nat.le_refl _
 | ss :: t => by
   have := barred_len t
   simp only [barred, List.length_append, List.length_cons]
   omega
theorem insertDC (F G : Nat → Prop) (hFG : ∀ k, F k → G k) (db dg tg : Nat) (s : Sch) (w : World) (Ad : Option Addr) (cd : Nat) (hb : w.heap[db]? = some (.cells (dkCells dg (PX tg) Ad cd s) 118 (0, 0))) (hA : SchAt F w Ad cd s) (hm64 : s.types.length ≤ 64)
   (A : Option Addr) (c : Nat) (l : List ByteArray) (hl : rdStr.Sl F w A c l) (hn : l.length ≤ 10000) (rows : List Row) (sss : List (List ByteArray)) (hlb : l ++ [bar] = barred sss) (hsl : sss.length = rows.length)
   (hsay : ∀ k (h1 : k < rows.length) (h2 : k < sss.length), SaysR w s.types rows[k] sss[k] ∧ ∀ x ∈ sss[k], x ≠ bar) (hG : ∀ k, G k → k < w.heap.size) (P : World → Prop)
   (hins : ∀ W A' c', Ext w W → rdRow.Sl G W A' c' rows → Calls Tryz.prog 9 #[PX tg, .slice A' rows.length c'] W fun e w' => e = .returned (.int .i64 0) ∧ P w') :
   Calls Tryz.prog 108 #[.pointer (some ⟨db, 0, none⟩), .slice A l.length c] w fun e w' => e = .returned (.string ⟨#[111, 107]⟩) ∧ P w' := by
 have HSAY := As.mk hsay
 have HSL := As.mk hsl
 have HLB := As.mk hlb
 have HINS := As.mk hins
 have hcl := fun W (hW : Ext w W) => clipS rdStr F A c l W (hl.ext hW)
 have HCL := As.mk hcl
 clear hsay hsl hlb hins hcl
 (have p0 := bC (hb) 0; have p1 := bC (hb) 1; have p2 := bC (hb) 2; have p3 := bC (hb) 3; have p4 := bC (hb) 4; have p5 := bC (hb) 5)
 go_enter Tryz.func108, Tryz.ntmps108
 have own0 : ∀ W : World, rdVal.Own G W.heap.size 33 (W.alloc (.cells #[] 33)) (.slice (some ⟨W.heap.size, 0, none⟩) 0 0) [] := fun W =>
   ⟨[], World.ownsRow_lit (base := W.heap.size) (e := 33) (size := 2) W #[] 0 (Nat.le_refl _) (by unfold maxLen; decide) rfl, fun j x hj => by simp at hj⟩
 have hr0 := own0 w
 have hBar := bN (w.alloc (.cells #[] 33)) (.cells #[.string bar] 9)
 rw [World.size_alloc] at hBar
 go_wp2_with (first | (go_at_call 191; refine (HCL.out _ XE).mono ?_; rintro e w2 ⟨rfl, rfl⟩) | (at_builtin; refine wpList_clip rfl _ _ _ rfl rdStr elStr rfl rfl (Sl_clip (hl.ext (((Ext.refl w).alloc _).alloc _))) rfl hBar (y := bar) rfl (by omega) (by unfold maxLen; omega) ?_; intro v3 w3 hown3 hE3; have hE03 := (((Ext.refl w).alloc (.cells #[] 33)).alloc (.cells #[.string bar] 9)).trans hE3; rw [HLB.out] at hown3; obtain ⟨L, hL⟩ : ∃ L, barred sss = L := ⟨_, rfl⟩; rw [hL] at hown3; have HL := As.mk hL; clear hL; obtain ⟨A3, c3, rfl, hsl3⟩ := (own_free_str (G := fun q => F q ∨ q = w.heap.size) hown3).shut (fun k q => q.elim (fun q => Nat.lt_of_lt_of_le (hG k (hFG k q)) (Ext.size (w := w) (((Ext.refl w).alloc (.cells #[] 33)).alloc (.cells #[.string bar] 9)))) (fun q => by rw [q]; simp; omega))))
 have hr3 := hr0.ext (((Ext.refl (w.alloc (.cells #[] 33))).alloc (.cells #[.string bar] 9)).trans hE3)
 have hLn : L.length ≤ 10001 := by rw [← HL.out, ← HLB.out, List.length_append]; simp; omega
 have hRL : As (rows.length ≤ L.length) := ⟨by rw [← HL.out, ← HSL.out]; exact barred_len sss⟩
 obtain ⟨z0, hz0⟩ : ∃ z0, w.heap.size = z0 := ⟨_, rfl⟩
 have hdb := blk_lt hb
 have hb3 := hE03.blk hb
 have hs03 := hE03.size
 have HA := As.mk hA
 have HB3 := As.mk hb3
 have HOWN0 := As.mk own0
 have HBL := As.mk hG
 have hbsz : ∀ q, G q → ¬ (q = z0 ∨ w3.heap.size ≤ q) := fun q h => by have := hG q h; omega
 clear hA hb3 own0 hBar hr0 p0 p1 p2 p3 p4 p5 hb hl
 rw [hz0] at hr3 hsl3 ⊢
 go_loopw [5, 6, 18] (fun v5 v6 i wr => ∃ (ii k : Nat) (pre : Row), i = .int .i64 ii ∧ ii ≤ L.length ∧ As (L.drop ii = remd sss k pre.length) ∧ (k < rows.length ∨ k = rows.length ∧ pre = []) ∧ As (∀ hk : k < rows.length, pre = (rows[k]).take pre.length ∧ pre.length ≤ s.types.length) ∧ rdRow.Own (Fv G v6) w3.heap.size 41 wr v5 (rows.take k) ∧ rdVal.Own G z0 33 wr v6 pre ∧ As (∀ q, v5.ownBlock = some q → ¬ v6.ownBlock = some q) ∧ As (∀ q, v6.ownBlock = some q → q = z0 ∨ w3.heap.size ≤ q) ∧ Keep (fun q => q = z0) w3 wr) (fun _ _ i _ => L.length - (intOf i).toNat)
 case atStart => exact ⟨0, 0, [], by go_num, Nat.zero_le _, ⟨by rw [← HL.out, remd_all]; rfl⟩, by rcases Nat.eq_zero_or_pos rows.length with q | q; exact .inr ⟨q.symm, rfl⟩; exact .inl q, ⟨fun hk => ⟨rfl, Nat.zero_le _⟩⟩, Rd.Own.nil _ _ _ _ _, hr3, ⟨fun q h => by cases h⟩, ⟨fun q h => by cases h; exact .inl rfl⟩, Keep.refl _ _⟩
 case round =>
   obtain ⟨ii, k, pre, rfl, hil, hrem, hk, hpre, hrows, hr, hne, hq6, K⟩ := hrel
   have hE0 : Ext w wr := Ext.keepNew hE03 K (fun q h => by omega)
   have hdbr := (K.blk (by omega) HB3.out)
   have hszr := K.size
   have hAr : SchAt F wr Ad cd s := Rd.Sl.ext HA.out hE0
   by_cases hkn : k < rows.length
   · have hks : k < sss.length := by rw [HSL.out]; exact hkn
     obtain ⟨hsay, hnb⟩ := HSAY.out k hkn hks
     obtain ⟨hp1, hp2⟩ := hpre.out hkn
     have hlr : rows[k].length = s.types.length := hsay.2.1
     have hls : sss[k].length = s.types.length := hsay.1
     have hwL := hsl3.keep (K.mono (fun _ _ q => .inr q))
     by_cases hj : pre.length < s.types.length
     · have hr1 := hrem.out
       rw [remd_mid sss k pre.length hks (by omega)] at hr1
       obtain ⟨hi, hx, hrest⟩ := drop_out hr1
       have hsx := hsay.2.2 pre.length hj (by omega) (by omega)
       have hxb := hnb _ (List.getElem_mem (show pre.length < sss[k].length by omega))
       obtain ⟨x, hx0⟩ : ∃ x, (sss[k])[pre.length]'(by omega) = x := ⟨_, rfl⟩
       obtain ⟨y, hy0⟩ : ∃ y, (rows[k])[pre.length]'(by omega) = y := ⟨_, rfl⟩
       obtain ⟨tt, ht0⟩ : ∃ tt, s.types[pre.length] = tt := ⟨_, rfl⟩
       rw [hx0] at hxb hsx hx
       rw [hy0, ht0] at hsx
       obtain ⟨bA, oA, rfl, hcx⟩ := str_get hwL hi
       rw [hx] at hcx
       obtain ⟨bt, ot, rfl, hct⟩ := int_get hAr hj
       rw [ht0] at hct
       obtain ⟨n, y2⟩ := y
       obtain ⟨rfl, hsx2⟩ : y2 = emp ∧ Says w tt x n := hsx
       have HREAD := As.mk (readC tt x n wr (hsx2.ext hE0))
       have b1 : (x.toList == [124]) = false := by rw [beq_eq_false_iff_ne]; intro q; rw [Lib.toList_data] at q; exact hxb (ByteArray.ext (Array.toList_inj.1 q))
       have b2 : ((pre.length : Int) == (s.types.length : Int)) = false := by rw [beq_eq_false_iff_ne]; omega
       have hpl : pre.length ≤ 64 := by omega
       have HP := As.mk (show pre ++ [((n, emp) : Val)] = (rows[k]).take (pre.length + 1) by rw [take_succ_get (rows[k]) pre.length (by omega), hy0, ← hp1])
       have HJ := As.mk hj
       obtain ⟨A6, c6, rfl, -⟩ := own_len hr
       (have p0 := bC (hdbr) 0; have p1 := bC (hdbr) 1; have p2 := bC (hdbr) 2; have p3 := bC (hdbr) 3; have p4 := bC (hdbr) 4; have p5 := bC (hdbr) 5)
       clear hr1 hx hxb hx0 hy0 ht0 hsx2 hp1 hp2 hlr hls hsay hnb hwL hAr hdbr hs03 hdb
       go_wp2_with (fail)
       refine HREAD.out.mono ?_; rintro e w4 ⟨rfl, hE4⟩
       have hB4 := bN w4 (.cells #[.int .i64 n, .string emp] 33)
       have hB5 := bN (w4.alloc (.cells #[.int .i64 n, .string emp] 33)) (.cells #[.int .i64 n, .string emp] 33)
       rw [World.size_alloc] at hB5
       have hEa := ((Ext.refl w4).alloc (.cells #[.int .i64 n, .string emp] 33)).alloc (.cells #[.int .i64 n, .string emp] 33)
       have hr5 := hr.ext (hE4.trans hEa)
       have hrows5 := hrows.ext (hE4.trans hEa)
       have K5 := K.post (hE4.trans hEa)
       (have v0 := bC (hB4) 0; have v1 := bC (hB4) 1)
       clear p0 p1 p2 p3 p4 p5
       go_wp2_with (first | (at_builtin; refine wpList_pushAt rfl _ _ _ rfl rdVal elVal rfl hr5 rfl hB5 (y := ((n, emp) : Val)) rfl (by omega) (by unfold maxLen; omega) (by have := (hE4.trans hEa).size; have := hE0.size; omega) ?_; intro v7 w7 hown7 hg7 hat7))
       obtain ⟨hrows7, hne7⟩ := rows_push hrows5 hg7 hat7 hne.out
       have hat8 := at_split hat7
       have hsz5 := K5.size
       have K7 := K5.newB (Keep.of_grown (F := fun q => Value.ownBlock (.slice A6 pre.length c6) = some q) hg7 (fun j hj _ => hj)) (fun q h => hq6.out q h)
       go_roundw
       case rel =>
         refine ⟨ii + 1, k, pre ++ [((n, emp) : Val)], by go_num, by omega, ⟨?_⟩, .inl hkn, ⟨fun hk => ?_⟩, hrows7, hown7, ⟨hne7⟩, ⟨fun q h => ?_⟩, K7⟩
         · rw [hrest]; simp
         · have h9 : (pre ++ [((n, emp) : Val)]).length = pre.length + 1 := by simp
           rw [h9]
           exact ⟨HP.out, HJ.out⟩
         · rcases hat8 q h with a | a
           · exact hq6.out q a
           · exact .inr (Nat.le_trans hsz5 a)
       case measure => simp [intOf] <;> omega
     · have hr1 := hrem.out
       rw [remd_bar sss k pre.length hks (by omega)] at hr1
       obtain ⟨hi, hx, hrest⟩ := drop_out hr1
       have hpf : pre = rows[k] := by rw [hp1]; exact List.take_of_length_le (by omega)
       have hpm : pre.length = s.types.length := by omega
       obtain ⟨bA, oA, rfl, hcx⟩ := str_get hwL hi
       rw [hx] at hcx
       have b2 : ((pre.length : Int) == (s.types.length : Int)) = true := by rw [beq_iff_eq]; omega
       have hge5 := hrows.ge
       have HPM := As.mk hpm
       obtain ⟨A6, c6, he6, hs6⟩ := own_shut2 (F' := Fv G u5) hr (fun g hg q => q.elim (fun q => hbsz g q (hq6.out g hg)) (fun q => hne.out g q hg))
       subst he6
       have hB4 := bN wr (.cells #[.slice A6 pre.length c6] 41)
       have hEa := (Ext.refl wr).alloc (.cells #[.slice A6 pre.length c6] 41)
       have hrows5 := (own_narrow (G := G) hrows (fun _ _ q => .inl q)).ext hEa
       have K5 := K.post hEa
       have HPF := As.mk hpf
       have hfk : As ((rows.take k).length = k) := ⟨by rw [List.length_take]; omega⟩
       have hs6a := hs6.ext hEa
       have hrl : rows.length ≤ 10001 := Nat.le_trans hRL.out hLn
       (have p0 := bC (hdbr) 0; have p1 := bC (hdbr) 1; have p2 := bC (hdbr) 2; have p3 := bC (hdbr) 3; have p4 := bC (hdbr) 4; have p5 := bC (hdbr) 5)
       clear hr1 hx hp1 hp2 hlr hls hsay hnb hwL hAr hdbr hs03 hdb hpf hpm
       go_wp2_with (first | (at_builtin; refine wpList_push rfl _ _ _ rfl rdRow elRow rfl hrows5 rfl hB4 (y := pre) ⟨A6, c6, rfl, hs6a⟩ (by rw [hfk.out]; omega) (by rw [hfk.out]; unfold maxLen; omega) (by have := K5.size; omega) (Below.refl _ _) ?_; intro v7 w7 hown7 hg7 hE7))
       have hge7 := hown7.ge
       have K7 := (K5.newB (Keep.of_grown (F := fun q => w3.heap.size ≤ q) hg7 (fun j hj _ => (hge5 j hj).1)) (fun q h => .inr h)).post ((Ext.refl w7).alloc (.cells #[] 33))
       have hn0 := HOWN0.out w7
       have hs37 : z0 ≤ w7.heap.size ∧ w3.heap.size ≤ w7.heap.size := by
         have h1 := K5.size
         have h2 := hg7.size
         have h3 := hE0.size
         have h4 := hEa.size
         exact ⟨by omega, by omega⟩
       have hsn : rows.take (k + 1) = rows.take k ++ [pre] := by rw [take_succ_get rows k hkn, ← HPF.out]
       rw [← hsn] at hown7
       go_roundw
       case rel =>
         refine ⟨ii + 1, k + 1, [], by go_num, by omega, ⟨hrest⟩, by rcases Nat.lt_or_ge (k + 1) rows.length with q | q; exact .inl q; exact .inr ⟨by omega, rfl⟩, ⟨fun hk => ⟨rfl, Nat.zero_le _⟩⟩, ?_, hn0.lower hs37.1, ⟨fun q h h' => ?_⟩, ⟨fun q h => ?_⟩, K7⟩
         · exact (own_narrow hown7 (fun q hq h => h.elim id (fun h => by cases h; exact absurd hq (Nat.lt_irrefl _)))).ext ((Ext.refl w7).alloc _)
         · cases h'
           exact absurd (hge7 _ h).2 (Nat.lt_irrefl _)
         · cases h
           exact .inr hs37.2
       case measure => simp [intOf] <;> omega
   · obtain ⟨rfl, rfl⟩ : k = rows.length ∧ pre = [] := hk.elim (fun q => absurd q hkn) id
     have hr1 := hrem.out
     rw [← HSL.out, remd_end] at hr1
     have hii : ii = L.length := by
       have := congrArg List.length hr1
       rw [List.length_drop] at this; simp at this; omega
     have hfin : rows.take rows.length = rows := List.take_length
     rw [hfin] at hrows
     obtain ⟨A5, c5, rfl, hs5⟩ := (own_narrow (G := G) hrows (fun _ _ q => .inl q)).shut (fun q h => by have := hG q h; omega)
     have HI := As.mk (HINS.out wr A5 c5 hE0 hs5)
     subst hii
     (have p0 := bC (hdbr) 0; have p1 := bC (hdbr) 1; have p2 := bC (hdbr) 2; have p3 := bC (hdbr) 3; have p4 := bC (hdbr) 4; have p5 := bC (hdbr) 5)
     clear hr1 hfin hrows hs5 hdbr hAr hs03 hdb hkn
     go_wp2_with (fail)
     refine HI.out.mono ?_; rintro e w4 ⟨rfl, hP⟩
     go_wp2_with (fail)
     refine (toldC w4).mono ?_; rintro e w5 ⟨rfl, rfl⟩
     go_wp2_with (fail)
     go_ret
     exact ⟨rfl, hP⟩
end K94
namespace K95
open Go Go.RowKit KB KB2 K65 K1 K2 K42 K70 K88 K89 K90 K91 K92 K93
theorem noIndexC (F : Nat → Prop) (A : Option Addr) (c : Nat) (l : List Int) (x : Int) (w : World) (hl : (rdInt .i64).Sl F w A c l) (hn : l.length ≤ 100000) (hb : ∀ y ∈ l, y ≠ x) :
   Calls Tryz.prog 253 #[.slice A l.length c, .int .i64 x] w fun e w' => e = .returned (.int .i64 (-1)) ∧ Ext w w' := by
 have HB := As.mk hb
 clear hb
 go_enter Tryz.func253, Tryz.ntmps253
 go_wp2_with (fail)
 go_loopw [8] (fun i wr => ∃ j : Nat, i = .int .i64 j ∧ j ≤ l.length ∧ Ext w wr) (fun i _ => l.length - (intOf i).toNat)
 case atStart => exact ⟨0, by go_num, Nat.zero_le _, Ext.refl _⟩
 case round =>
   obtain ⟨j, rfl, hjk, hE⟩ := hrel
   by_cases hlt : j < l.length
   · obtain ⟨b, o, rfl, hc⟩ := int_get (hl.ext hE) hlt
     have hne := HB.out _ (List.getElem_mem hlt)
     obtain ⟨y, hy⟩ : ∃ y, l[j] = y := ⟨_, rfl⟩
     rw [hy] at hne hc
     have h1 : ¬ x = y := fun q => hne q.symm
     clear hy hne
     go_wp2_with (fail)
     go_roundw
     case rel => exact ⟨j + 1, by go_num, by omega, hE⟩
     case measure => simp [intOf] <;> omega
   · obtain rfl : j = l.length := by omega
     go_wp2_with (fail)
     go_ret
     exact ⟨rfl, hE⟩
theorem notInC (F : Nat → Prop) (A : Option Addr) (c : Nat) (l : List Int) (x : Int) (w : World) (hl : (rdInt .i64).Sl F w A c l) (hn : l.length ≤ 100000) (hb : ∀ y ∈ l, y ≠ x) :
   Calls Tryz.prog 189 #[.slice A l.length c, .int .i64 x] w fun e w' => e = .returned (.bool false) ∧ Ext w w' := by
 have HI := As.mk (noIndexC F A c l x w hl hn hb)
 clear hb hl
 go_enter Tryz.func189, Tryz.ntmps189
 go_wp2_with (fail)
 refine HI.out.mono ?_; rintro e w1 ⟨rfl, hE⟩
 go_wp2_with (fail)
 go_ret
 exact ⟨rfl, hE⟩
theorem among3 (g : Nat) (a b c x : ByteArray) (T : TypeId) (fr : Nat × Nat) (k : Nat) (hk : k < 3) (hx : [a, b, c][k] = x) (hb : ∀ j (h : j < k), [a, b, c][j]'(by simp; omega) ≠ x) (w : World) (h : w.heap[g]? = some (.cells #[.string a, .string b, .string c] T fr)) :
   Calls Tryz.prog 188 #[.string x, .slice (some ⟨g, 0, none⟩) 3 3] w fun e w' => e = .returned (.int .i64 (k + 1)) ∧ Ext w w' := by
 have hs : rdStr.Sl (fun _ => False) w (some ⟨g, 0, none⟩) 3 [a, b, c] := lit_one rfl h (fun q => q) rfl (by simp [maxLen]) (fun k x hk => by
   match k, hk with
   | 0, hk => cases hk; exact ⟨_, rfl, rfl⟩
   | 1, hk => cases hk; exact ⟨_, rfl, rfl⟩
   | 2, hk => cases hk; exact ⟨_, rfl, rfl⟩)
 exact amongC _ _ _ [a, b, c] x k w hs (by simp) hk hx hb
abbrev plainB : ByteArray := ⟨#[112, 108, 97, 105, 110]⟩
abbrev replB : ByteArray := ⟨#[114, 101, 112, 108, 97, 99, 105, 110, 103]⟩
abbrev sumB : ByteArray := ⟨#[115, 117, 109, 109, 105, 110, 103]⟩
abbrev intB : ByteArray := ⟨#[105, 110, 116]⟩
abbrev uintB : ByteArray := ⟨#[117, 105, 110, 116]⟩
abbrev textB : ByteArray := ⟨#[116, 101, 120, 116]⟩
def modeW (m : Nat) : ByteArray := if m = 1 then plainB else if m = 2 then replB else sumB
def typeW (t : Int) : ByteArray := if t = 1 then intB else if t = 2 then uintB else textB
theorem ne3 (a b c : ByteArray) (hab : a ≠ b) (hac : a ≠ c) (hbc : b ≠ c) : (∀ j (h : j < 1), [a, b, c][j]'(by simp; omega) ≠ b) ∧ (∀ j (h : j < 2), [a, b, c][j]'(by simp; omega) ≠ c) := by
 constructor
 · intro j h
   match j, h with
   | 0, _ => exact hab
 · intro j h
   match j, h with
   | 0, _ => exact hac
   | 1, _ => exact hbc
theorem amongMode (m : Nat) (h1 : 1 ≤ m) (h3 : m ≤ 3) (g : Nat) (T : TypeId) (fr : Nat × Nat) (w : World) (h : w.heap[g]? = some (.cells #[.string plainB, .string replB, .string sumB] T fr)) :
   Calls Tryz.prog 188 #[.string (modeW m), .slice (some ⟨g, 0, none⟩) 3 3] w fun e w' => e = .returned (.int .i64 m) ∧ Ext w w' := by
 have hn := ne3 plainB replB sumB (by decide) (by decide) (by decide)
 obtain rfl | rfl | rfl : m = 1 ∨ m = 2 ∨ m = 3 := by omega
 · exact among3 g plainB replB sumB _ T fr 0 (by decide) rfl (fun j h => absurd h (Nat.not_lt_zero _)) w h
 · exact among3 g plainB replB sumB _ T fr 1 (by decide) rfl hn.1 w h
 · exact among3 g plainB replB sumB _ T fr 2 (by decide) rfl hn.2 w h
theorem amongType (t : Int) (h1 : 1 ≤ t) (h3 : t ≤ 3) (g : Nat) (T : TypeId) (fr : Nat × Nat) (w : World) (h : w.heap[g]? = some (.cells #[.string intB, .string uintB, .string textB] T fr)) :
   Calls Tryz.prog 188 #[.string (typeW t), .slice (some ⟨g, 0, none⟩) 3 3] w fun e w' => e = .returned (.int .i64 t) ∧ Ext w w' := by
 have hn := ne3 intB uintB textB (by decide) (by decide) (by decide)
 obtain rfl | rfl | rfl : t = 1 ∨ t = 2 ∨ t = 3 := by omega
 · exact among3 g intB uintB textB _ T fr 0 (by decide) rfl (fun j h => absurd h (Nat.not_lt_zero _)) w h
 · exact among3 g intB uintB textB _ T fr 1 (by decide) rfl hn.1 w h
 · exact among3 g intB uintB textB _ T fr 2 (by decide) rfl hn.2 w h
theorem opensC (F G : Nat → Prop) (hFG : ∀ k, F k → G k) (db dg : Nat) (d1 d2 d3 d4 d5 : Value) (w : World) (hb : w.heap[db]? = some (.cells #[BX dg, d1, d2, d3, d4, d5] 118 (0, 0))) (s : Sch) (hs : s.Ok) (hk9 : s.grain ≤ 999999)
   (A : Option Addr) (c : Nat) (wk wg : ByteArray) (hl : rdStr.Sl F w A c (modeW s.mode :: wk :: wg :: s.types.map typeW)) (hk : Says w 1 wk s.keys) (hg : Says w 1 wg s.grain) (hG : ∀ k, G k → k < w.heap.size)
   (T : Nat → Prop) (hT : ∀ k, T k → k < w.heap.size) (hTd : ¬ T db) (Q : Nat → Option Addr → Nat → World → Prop)
   (hopen : ∀ W A' c', Ext w W → SchAt G W A' c' s → Calls Tryz.prog 16 #[BX dg, schV A' c' s] W fun e w' => ∃ tg, e = .returned (.tuple #[PX tg, .int .i64 0]) ∧ Q tg A' c' w' ∧ Keep T W w') :
   Calls Tryz.prog 107 #[.pointer (some ⟨db, 0, none⟩), .slice A (s.types.length + 3) c] w fun e w' => e = .returned (.string ⟨#[111, 107]⟩) ∧ ∃ tg A' c' W, Q tg A' c' W ∧ w'.heap[db]? = some (.cells (dkCells dg (PX tg) A' c' s) 118 (0, 0)) ∧ Keep (fun k => k = db) W w' := by
 have h1 := hs.n1
 have h2 := hs.n2
 have hm1 := hs.m1
 have hm2 := hs.m2
 have hkk := hs.k2
 obtain ⟨A1, hrun1, hs1⟩ := hl.cut elStr 1 3 2 1 3 (by decide) (by simp) rfl rfl rfl
 obtain ⟨A3, hrun3, hs3⟩ := hl.suf elStr 3 s.types.length 3 (by simp) rfl (by simp)
 obtain ⟨b0, o0, rfl, hc0⟩ := str_get hl (k := 0) (by simp)
 simp only [List.getElem_cons_zero, Nat.add_zero] at hc0
 have hL : (modeW s.mode :: wk :: wg :: s.types.map typeW).length = s.types.length + 3 := by simp
 rw [hL] at hrun1 hrun3
 simp only [List.take_succ_cons, List.take_zero, List.drop_succ_cons, List.drop_zero] at hs1 hs3
 have HNUM := As.mk (fun W (hW : Ext w W) => numbersC F A1 (c - 1) [wk, wg] [(s.keys : Int), (s.grain : Int)] W (hs1.ext hW) (by simp) ⟨rfl, fun k h h' => by
   match k, h with
   | 0, _ => exact ⟨hk.ext hW, by simp, by simp; omega⟩
   | 1, _ => exact ⟨hg.ext hW, by simp, by simp; omega⟩⟩ (FExt (fun k q => hG k (hFG k q)) hW))
 clear hl hs1 hk hg
 have n0 : ¬ ((s.types.length : Int) + 3 < 4) := by omega
 go_enter Tryz.func107, Tryz.ntmps107
 go_wp2_with (fail)
 refine (HNUM.out w (Ext.refl _)).mono ?_; rintro e w1 ⟨v1, rfl, hown1, hE1⟩
 obtain ⟨An, cn, rfl, hns⟩ := hown1.shut (fun k q => hG k (hFG k q))
 have hc1 := hE1.cell hc0
 have hB1 := bN w1 (.cells #[.string plainB, .string replB, .string sumB] 9)
 have HMODE := As.mk (amongMode s.mode hm1 hm2 _ _ _ _ hB1)
 have hEb := (Ext.refl w1).alloc (.cells #[.string plainB, .string replB, .string sumB] 9)
 clear hc0 hB1 HNUM hown1
 go_wp2_with (fail)
 refine HMODE.out.mono ?_; rintro e w2 ⟨rfl, hE2⟩
 have hE02 := (hE1.trans hEb).trans hE2
 have hB3 := bN w2 (.cells #[.slice none 0 0, .int .i64 0, .int .i64 s.mode, .int .i64 0] 27)
 have hEc := (Ext.refl w2).alloc (.cells #[.slice none 0 0, .int .i64 0, .int .i64 s.mode, .int .i64 0] 27)
 have hE03 := hE02.trans hEc
 have hE13 := ((hEb.trans hE2).trans hEc)
 clear HMODE hc1
 go_wp2_with (fail)
 obtain ⟨x, hx⟩ : ∃ x, w2.heap.size = x := ⟨_, rfl⟩
 have hxw : w.heap.size ≤ x := by rw [← hx]; exact hE02.size
 have hx3 : x < (w2.alloc (.cells #[.slice none 0 0, .int .i64 0, .int .i64 s.mode, .int .i64 0] 27)).heap.size := by rw [← hx]; simp
 rw [hx] at hB3 ⊢
 generalize w2.alloc (.cells #[.slice none 0 0, .int .i64 0, .int .i64 s.mode, .int .i64 0] 27) = w3 at *
 have hs33 := (hs3.narrow (G := fun q => F q ∨ q = x) (by decide) (fun q hq h => h.elim id (fun e => by omega))).ext hE03
 have hns3 := (hns.narrow (G := fun q => F q ∨ q = x) (by decide) (fun q hq h => h.elim id (fun e => by have := hEb.size; have := hE2.size; omega))).ext hE13
 have hb3 := hE03.blk hb
 have hdb := blk_lt hb
 have HB3 := As.mk hb3
 have HNS := As.mk hns3
 have HRUN3 := As.mk hrun3
 have HT := As.mk hs.t
 clear hx hE13 hns hs3 hb hb3 hns3 hrun1 hrun3
 go_loopw [30] (fun i wr => ∃ (k : Nat) (v : Value), i = .int .i64 k ∧ k ≤ s.types.length ∧ wr.heap[x]? = some (.cells #[v, .int .i64 0, .int .i64 s.mode, .int .i64 0] 27 (0, 0)) ∧ (rdInt .i64).Own G w3.heap.size 3 wr v (s.types.take k) ∧ Keep (fun q => q = x) w3 wr) (fun i _ => s.types.length - (intOf i).toNat)
 case atStart => exact ⟨0, _, by go_num, Nat.zero_le _, hB3, Rd.Own.nil _ _ _ _ _, Keep.refl _ _⟩
 case round =>
   obtain ⟨k, v, rfl, hkl, hxr, hown, K⟩ := hrel
   by_cases hlt : k < s.types.length
   · have hlw : k < (s.types.map typeW).length := by simp; exact hlt
     obtain ⟨bA, oA, rfl, hcw⟩ := str_get (hs33.keep (K.mono (fun _ _ q => .inr q))) hlw
     rw [List.getElem_map] at hcw
     obtain ⟨tt, ht0⟩ : ∃ tt, s.types[k] = tt := ⟨_, rfl⟩
     have ht1 := HT.out _ (List.getElem_mem hlt)
     rw [ht0] at hcw ht1
     have hxr3 : x < wr.heap.size := blk_lt hxr
     have hge := hown.ge
     have hwB := K.size
     have hgx : ∀ j, v.ownBlock = some j → ¬ j = x := fun j hj => by have := (hge j hj).1; omega
     have hsn : As (s.types.take (k + 1) = s.types.take k ++ [tt]) := ⟨by rw [take_succ_get s.types k hlt, ht0]⟩
     have hfk : As ((s.types.take k).length = k) := ⟨by rw [List.length_take]; omega⟩
     obtain ⟨pre, hpre⟩ : ∃ pre, s.types.take k = pre := ⟨_, rfl⟩
     rw [hpre] at hown hfk hsn
     have HAM := As.mk (fun (g : Nat) (W : World) (h : W.heap[g]? = some (.cells #[.string intB, .string uintB, .string textB] 9 (0, 0))) => amongType tt ht1.1 ht1.2 g _ _ W h)
     have xr0 := bC hxr 0
     have hEl := (Ext.refl wr).alloc (.cells #[.string intB, .string uintB, .string textB] 9)
     have xl0 := hEl.cell xr0
     clear ht0 ht1 hpre
     go_wp2_with (fail)
     go_region_law (first | (go_simp; go_at_call 188; with_reducible refine Calls.mono (HAM.out _ _ ?_) ?_; (first | exact bN _ _ | exact (Ext.refl _).drew.blk (bN _ _)); rintro e w5 ⟨rfl, hE5⟩; have hx5 := Ext.trans (a := wr) XE hE5; have s0 := bC (hx5.blk hxr) 0; have s0a := Ext.cell ((Ext.refl w5).alloc (.cells #[.int .i64 tt] 3)) s0; dsimp only) | (refine step_pushAt rfl (.tmp 35) (.tmp 39) 25 rfl (rdInt .i64) elIntN (by rfl) (hown.ext XE) (by rfl) (by exact heap_alloc_new _ _) (y := tt) rfl (by rw [hfk.out]; omega) (by rw [hfk.out]; unfold maxLen; omega) (Nat.le_trans hwB (Ext.size (w := wr) XE)) ?_; intro v' w6 hown6 hg6 hat6; have hbx := (hg6.block x (Nat.lt_of_lt_of_le hxr3 (Ext.size (w := wr) XE)) (fun e => hgx x e.symm rfl)).trans (Ext.blk (w := wr) XE hxr); have X0 := bC hbx 0; have Xf0 := bF hbx 0; obtain ⟨A9, c9, rfl, hc9, _⟩ := own_len hown6))
     all_goals
       (try simp only [Exit.inBlock, Exit.then])
       go_wp2_with (fail)
       have hlen : (pre ++ [tt]).length = pre.length + 1 := by simp
       have hb6 := bS hbx 0 (.slice A9 (pre.length + 1) c9)
       have kg6 : Keep (fun j => v.ownBlock = some j) _ w6 := Keep.of_grown hg6 (fun j hj _ => hj)
       have kall := (K.newB ((Ext.keep (w := wr) XE _).trans kg6) (fun q h => .inr (hge q h).1)).trans (kS1 w6 x 0 (.slice A9 (pre.length + 1) c9))
       have hown7 := own_set (g := x) (j := 0) (u := .slice A9 (pre.length + 1) c9) (intFree _) hown6 hx3
       rw [hlen, ← hsn.out] at hown7
       clear hlen
       go_roundw
       case rel => exact ⟨k + 1, .slice A9 (pre.length + 1) c9, by go_num, by omega, hb6, hown7, kall⟩
       case measure => simp [intOf] <;> omega
   · obtain rfl : k = s.types.length := by omega
     have hfin : s.types.take s.types.length = s.types := List.take_length
     rw [hfin] at hown
     have hE0 : Ext w wr := Ext.keepNew hE03 K (fun q h => by omega)
     have hbr := K.blk (by omega) HB3.out
     have hnr := HNS.out.keep (K.mono (fun _ _ q => .inr q))
     obtain ⟨bn, on, rfl, hn0⟩ := int_get hnr (k := 0) (by simp)
     obtain ⟨_, _, e9, hn1⟩ := int_get hnr (k := 1) (by simp)
     cases e9
     obtain ⟨_, _, e9, hat9⟩ := hnr.get (k := 0) (by simp)
     cases e9
     have hbx : ¬ bn = x := fun q => hat9.1 (.inr q)
     have hbx2 : ¬ x = bn := fun q => hbx q.symm
     clear hat9
     simp only [List.getElem_cons_zero, List.getElem_cons_succ, Nat.add_zero] at hn0 hn1
     have hown9 := hown
     obtain ⟨A9, c9, rfl, hs9x⟩ := (hown.free (intFree _) (G := fun q => G q ∨ q = x) (w' := wr) (fun _ _ => rfl)).shut (fun q h => h.elim (fun h => by have := hG q h; have := hE03.size; omega) (fun h => by omega))
     have hs9 := hs9x.narrow (G := G) (by decide) (fun q _ h => .inl h)
     have HNI := As.mk (notInC G A9 c9 s.types 0 wr hs9 (by omega) (fun y hy => by have := HT.out y hy; omega))
     have m0 : ¬ ((s.mode : Int) = 0) := by omega
     have hge := hown9.ge
     (have v0 := bC (hxr) 0; have v1 := bC (hxr) 1; have v2 := bC (hxr) 2; have v3 := bC (hxr) 3)
     clear hfin hown hnr hown9
     go_wp2_with (first | (go_at_call 189; refine HNI.out.mono ?_; rintro e w4 ⟨rfl, hE4⟩; have hx4 := hE4.blk hxr; have n40 := hE4.cell hn0; have n41 := hE4.cell hn1; (have u0 := bC (hx4) 0; have uf0 := bF (hx4) 0; have u1 := bC (hx4) 1; have uf1 := bF (hx4) 1; have u2 := bC (hx4) 2; have uf2 := bF (hx4) 2; have u3 := bC (hx4) 3; have uf3 := bF (hx4) 3)))
     go_region
     (try simp only [Exit.inBlock, Exit.then])
     have P1 := bS (bS hx4 1 (.int .i64 s.keys)) 3 (.int .i64 s.grain)
     have K1 := (kS1 w4 x 1 (.int .i64 s.keys)).trans (kS1 _ x 3 (.int .i64 s.grain))
     have hE5 : Ext w ((w4.setCell ⟨x, 1, none⟩ (.int .i64 s.keys)).setCell ⟨x, 3, none⟩ (.int .i64 s.grain)).drew := ((hE0.trans hE4).keepNew K1 (fun q h => by omega)).drew
     have hP1 := (Ext.refl _).drew.blk P1
     have hb5 := (Ext.refl _).drew.blk (K1.blk (by omega) (hE4.blk hbr))
     have hs5 := (((hs9x.ext hE4).keep (K1.mono (fun _ _ q => .inr q))).narrow (G := G) (by decide) (fun q _ h => .inl h)).ext (Ext.refl _).drew
     have HOP := As.mk (fun W (hW : Ext _ W) => hopen W A9 c9 (hE5.trans hW) (Rd.Sl.ext hs5 hW))
     clear hx4 P1 K1 u0 u1 u2 u3 uf0 uf1 uf2 uf3 n40 n41 hE5 hs5 hs9 hs9x hxr v0 v1 v2 v3 hn0 hn1 HNI hbr
     generalize ((w4.setCell ⟨x, 1, none⟩ (.int .i64 s.keys)).setCell ⟨x, 3, none⟩ (.int .i64 s.grain)).drew = w5 at *
     (have q0 := bC (hP1) 0; have q1 := bC (hP1) 1; have q2 := bC (hP1) 2; have q3 := bC (hP1) 3)
     (have p0 := bC (hb5) 0; have p1 := bC (hb5) 1; have p2 := bC (hb5) 2; have p3 := bC (hb5) 3; have p4 := bC (hb5) 4; have p5 := bC (hb5) 5)
     go_wp2_with (fail)
     go_region_law (first | (go_simp; go_at_call 16; with_reducible refine Calls.mono (HOP.out _ ?_) ?_; exact XE; rintro e w6 ⟨tg, rfl, hQ6, K6⟩; have hx6 := K6.blk (fun q => by have := hT _ q; omega) (Ext.blk (w := w5) XE hP1); have hd6 := K6.blk hTd (Ext.blk (w := w5) XE hb5); dsimp only))
     all_goals
       (try simp only [Exit.inBlock, Exit.then])
       go_wp2_with (fail)
       (have u0 := bC (hx6) 0; have u1 := bC (hx6) 1; have u2 := bC (hx6) 2; have u3 := bC (hx6) 3)
       (have z0 := bC (hd6) 0; have zf0 := bF (hd6) 0; have z1 := bC (hd6) 1; have zf1 := bF (hd6) 1; have z2 := bC (hd6) 2; have zf2 := bF (hd6) 2; have z3 := bC (hd6) 3; have zf3 := bF (hd6) 3; have z4 := bC (hd6) 4; have zf4 := bF (hd6) 4; have z5 := bC (hd6) 5; have zf5 := bF (hd6) 5)
       go_region
       all_goals
         (try simp only [Exit.inBlock, Exit.then])
         go_wp2_with (fail)
         refine (toldC _).mono ?_; rintro e w7 ⟨rfl, rfl⟩
         go_wp2_with (fail)
         go_ret
         have PA := (bS (bS (bS (bS (bS hd6 1 (PX tg)) 2 (.slice A9 s.types.length c9)) 3 (.int .i64 s.keys)) 4 (.int .i64 s.mode)) 5 (.int .i64 s.grain))
         have PB := (bS (bS (bS (bS (bS hd6 2 (.slice A9 s.types.length c9)) 3 (.int .i64 s.keys)) 4 (.int .i64 s.mode)) 5 (.int .i64 s.grain)) 1 (PX tg))
         have KA := (Keep.trans (Keep.trans (Keep.trans (Keep.trans (kS1 w6 db 1 (PX tg)) (kS1 _ db 2 (.slice A9 s.types.length c9))) (kS1 _ db 3 (.int .i64 s.keys))) (kS1 _ db 4 (.int .i64 s.mode))) (kS1 _ db 5 (.int .i64 s.grain)))
         have KB' := (Keep.trans (Keep.trans (Keep.trans (Keep.trans (kS1 w6 db 2 (.slice A9 s.types.length c9)) (kS1 _ db 3 (.int .i64 s.keys))) (kS1 _ db 4 (.int .i64 s.mode))) (kS1 _ db 5 (.int .i64 s.grain))) (kS1 _ db 1 (PX tg)))
         first
           | exact ⟨rfl, tg, A9, c9, w6, hQ6, (Ext.refl _).drew.blk PA, KA.post (Ext.refl _).drew⟩
           | exact ⟨rfl, tg, A9, c9, w6, hQ6, (Ext.refl _).drew.blk PB, KB'.post (Ext.refl _).drew⟩
end K95
end Go.Proofs.YtbjeejimedhniaaGreatDoor
