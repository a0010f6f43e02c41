/- Contracts of the program's functions, as the walks of the law use them. -/
import Derived.Test.YtbjeejimedhniaaGreatDoorD23
import Derived.Test.YtbjeejimedhniaaGreatDoorD27
import Derived.Lib.ItoaMem
import Derived.Lib.ParseIntBTie
import Derived.Lib.AtoiAllCases
import Derived.Test.YtbjeejimedhniaaGreatDoorD2
import Derived.Test.YtbjeejimedhniaaGreatDoorD1
import Derived.Shelf.Pu.ParseUintPublic10
import Derived.Test.YtbjeejimedhniaaGreatDoorProg
import Derived.Test.YtbjeejimedhniaaGreatDoorD25
set_option linter.unusedVariables false
set_option linter.unusedSimpArgs false
set_option maxRecDepth 100000
set_option maxHeartbeats 6400000
namespace Go.Proofs.YtbjeejimedhniaaGreatDoor
namespace K123
open Go Go.RowKit
open KB KB2 P2 K1 K2 K3 K17 P5 P6 P8 P9 K25 K35 K38 K42 K54 K55 K56 K57 K58 K31 K65 K70 K71 K72 K75 K77 K81 K87 K88 K89 K91 K92 K93 K94 K95 K97 K5 P4 P10 K79 K98 K99 K101 K102 K103 K104 K105 K106
open K90 K103 K104 K105 K107 K115 K119 K121 K122
theorem lineGetA (y : Nat) (St : StM) (O T : Nat → Prop) (W : World) (h : StTab y St O T W) (hO : ∀ q, O q → q < W.heap.size) (hs : St.s.Ok) (A : Option Addr) (c : Nat) (hl : rdStr.Sl (fun q => O q ∨ T q) W A c [getB, finalB, countB, sumC, oneB])
   (hn : St.parts.length ≤ 1000) (hN : St.parts.flatten.length ≤ 100000) (ho : ∀ x ∈ St.parts, Srt (cmpS St.s) x ∧ ∀ r ∈ x, RowOk St.s r)
   (hts : St.s.types = [1, 2]) (hs1 : ∀ W, Says W 1 oneB (1 : Nat)) (na nb : Int) (hc1 : accR f1 (told St.s true St.parts) = na) (hc2 : accR f2 (told St.s true St.parts) = nb) (s1 s2 : ByteArray) (hsa : Says W 1 s1 na) (hsb : Says W 2 s2 nb) (hjl : (joinL [s1, s2] ⟨#[32]⟩).length ≤ 1000000000) :
   Calls Tryz.prog 47 #[BX y, .slice A 5 c] W fun e W' => e = .returned (.string (BA (joinL [s1, s2] ⟨#[32]⟩))) ∧ ∃ T', StTab y St O T' W' ∧ Keep T W W' ∧ ∀ q, T' q → T q ∨ W.heap.size ≤ q := by
 have hown := stTab_own h
 have h0 := h
 obtain ⟨dg, mg, tg, pv, Ad, cd, g1, g2, g3, g4, rfl⟩ := h
 have hGl : ∀ q, (O q ∨ (q = y ∨ SB tg dg mg pv q)) → q < W.heap.size := fun q e => e.elim (hO q) (fun e => (hown q e).1)
 have hFl : ∀ q, (O q ∨ q = y) → q < W.heap.size := fun q e => hGl q (e.elim .inl (fun e => .inr (.inl e)))
 refine lineGetC (fun q => O q ∨ (q = y ∨ SB tg dg mg pv q)) y (BX dg) _ _ _ _ tg W g2 A c [finalB, countB, sumC, oneB] hl (by decide) _ _ ?_
 intro A2 c2 hl2
 have hg := getAC (fun q => O q ∨ q = y) y dg mg tg pv St hs W g1 Ad cd g2 (Rd.Sl.narrow Nat.one_pos g3 (fun k _ e => e.elim .inl (fun e => .inr (.inl e)))) hn hN ho A2 c2 (hl2.narrow (by decide) (fun k _ e => e.elim .inl (fun e => .inr (.inl e)))) hts hs1 na nb hc1 hc2 s1 s2 hsa hsb hjl hFl
 refine hg.mono ?_
 rintro e w' ⟨rfl, hE⟩
 exact ⟨rfl, _, stTab_keep h0 (hE.keep _), hE.keep _, fun q e => .inl e⟩
def GX (s : Sch) (y n : Nat) (ps : List (List Row)) (k : Nat) (O T : Nat → Prop) (W : World) : Prop :=
 ∃ St lg, Tabl s St lg k ∧ St.ids = idsTo n ∧ St.next = n ∧ St.parts = ps ∧ StTab y St O T W
theorem gx_of {s : Sch} {y n : Nat} {ps : List (List Row)} {k : Nat} {O T : Nat → Prop} {W : World} (h : GT s y n ps k O T W) : GX s y n ps k O T W := by
 obtain ⟨St, a, b, c, d, e⟩ := h
 exact ⟨St, _, a, b, c, d, e⟩
theorem gx_keep {s : Sch} {y n : Nat} {ps : List (List Row)} {k : Nat} {O T : Nat → Prop} {W W' : World} (h : GX s y n ps k O T W) (K : Keep O W W') : GX s y n ps k O T W' := by
 obtain ⟨St, lg, a, b, c, d, e⟩ := h
 exact ⟨St, lg, a, b, c, d, stTab_keep e K⟩
theorem gx_narrow {s : Sch} {y n : Nat} {ps : List (List Row)} {k : Nat} {O O' T : Nat → Prop} {W : World} (h : GX s y n ps k O T W) (hO : ∀ q, q < W.heap.size → O' q → O q) : GX s y n ps k O' T W := by
 obtain ⟨St, lg, a, b, c, d, e⟩ := h
 exact ⟨St, lg, a, b, c, d, stTab_narrow e hO⟩
theorem gx_own {s : Sch} {y n : Nat} {ps : List (List Row)} {k : Nat} {O T : Nat → Prop} {W : World} (h : GX s y n ps k O T W) : ∀ q, T q → q < W.heap.size ∧ ¬ O q := by
 obtain ⟨St, lg, a, b, c, d, e⟩ := h
 exact stTab_own e
theorem insGX (s : Sch) (hs : s.Ok) (y n : Nat) (ps : List (List Row)) (k : Nat) (hn : n < 30) (hk : k < 60) (O T : Nat → Prop) (W : World) (h : GX s y n ps k O T W) (hO : ∀ q, O q → q < W.heap.size) (A : Option Addr) (c : Nat) (l : List ByteArray) (hln : l.length ≤ 10000)
   (hl : rdStr.Sl (fun q => O q ∨ T q) W A c (insertB :: l)) (rows : List Row) (sss : List (List ByteArray)) (hlb : l ++ [bar] = barred sss) (hsl : sss.length = rows.length) (hsay : ∀ k (h1 : k < rows.length) (h2 : k < sss.length), SaysR W s.types rows[k] sss[k] ∧ ∀ x ∈ sss[k], x ≠ bar)
   (hro : PartOk s (sortS s rows)) (hb : (partB s (sortS s rows)).length ≤ 4000) (hlr : ∀ r ∈ rows, RowOk s r) (h1 : 1 ≤ rows.length) (h2 : rows.length < 20) (htot : rows.length + sumL ps ≤ 2000) :
   Calls Tryz.prog 47 #[BX y, .slice A (l.length + 1) c] W fun e W' => e = .returned (.string ⟨#[111, 107]⟩) ∧ ∃ T', GX s y (n + 1) (ps ++ [sortS s rows]) (k + 1) O T' W' ∧ Keep T W W' ∧ ∀ q, T' q → T q ∨ W.heap.size ≤ q := by
 obtain ⟨St, lg, hTb, hids, hnx, hps, hSt⟩ := h
 obtain ⟨li, hli, hlf⟩ := hTb.holds.log_
 have hTb2 := tabl_ins hs hTb (by omega) rows hb li hli (.inr (by omega))
 have hsc := hTb.sch
 have hus := hTb.room.used
 have hq := hTb.room.quota
 have hlm := hTb.room.lim
 have hnm := hTb.room.names
 have hlg := hTb.lgl
 have hnot : (St.next : Int) ∉ St.ids := fun e => by have := hTb.nx _ e; omega
 have hrl : (recAdd St.next).length = 7 := recAdd_len _ (by omega)
 have hfr := hTb.holds.fresh (id := St.next) (by omega) hnot
 have hne := hTb.holds.noEmp
 have hilen : St.ids.length = n := by rw [hids]; exact idsTo_len n
 have hplen : St.parts.length = n := by rw [← hTb.len]; exact hilen
 subst hsc
 refine (lineInsert y St O T W hSt hO hs A c l hln hl rows sss hlb hsl hsay hro hlr h1 h2 (by omega) (by omega) (by omega) (by rw [hps]; exact htot) (fun m hm => (hTb.nx m hm).2) (by omega) (by omega) hfr hne.1 li hli _ _ hlf ?_ ?_).mono ?_
 · rw [hq, hrl]
   have : k * 4000 ≤ 60 * 4000 := Nat.mul_le_mul_right _ (by omega)
   omega
 · rw [hrl]; omega
 · rintro e w' ⟨rfl, T', hT, hK, hN⟩
   refine ⟨rfl, T', ⟨_, _, hTb2, ?_, ?_, ?_, hT⟩, hK, hN⟩
   · show St.ids ++ [(St.next : Int)] = _
     rw [hids, hnx, idsTo_succ]
   · show St.next + 1 = n + 1
     rw [hnx]
   · show St.parts ++ [sortS St.s rows] = _
     rw [hps]
theorem tabl_old (s : Sch) (hs : s.Ok) (n : Nat) (hn : n ≤ 40) (ps : List (List Row)) (hpl : ps.length = n) (k : Nat) (hnk : n ≤ k) (D : Dsk) (lg : List Int) (hH : Holds D s lg ((idsTo n).zip ps) (idsTo n)) (hR : Room D k 4000) :
   Tabl s ⟨s, idsTo n, n, ps, saved D (recHead s (idsTo n) n) 6⟩ (recHead s (idsTo n) n) (k + 1) := by
 have hrl := recHead_len s hs (idsTo n) (by rw [idsTo_len]; omega) (idsTo_rng (by omega)) n (by omega)
 refine ⟨rfl, ?_, holds_saved hH _, room_saved hR _ (by omega), fun m hm => ?_, by omega, ?_, ?_, rfl⟩
 · show (idsTo n).length = ps.length
   rw [idsTo_len, hpl]
 · exact idsTo_mem.1 hm
 · show (idsTo n).length ≤ k + 1
   rw [idsTo_len]; omega
 · show n ≤ k + 1
   omega
theorem openOldT (s : Sch) (hs : s.Ok) (y n : Nat) (hn : n ≤ 40) (ps : List (List Row)) (hpl : ps.length = n) (hps : ∀ x ∈ ps, PartOk s x) (k : Nat) (hk : k < 100) (hnk : n ≤ k) (O T : Nat → Prop) (W : World) (h : GD s y n ps k O T W) (hO : ∀ q, O q → q < W.heap.size) (wk wg : ByteArray) (hkk : Says W 1 wk s.keys) (hg : Says W 1 wg s.grain) (A : Option Addr) (c : Nat)
   (hl : rdStr.Sl (fun q => O q ∨ T q) W A c (tableB :: modeW s.mode :: wk :: wg :: s.types.map typeW)) :
   Calls Tryz.prog 47 #[BX y, .slice A (s.types.length + 4) c] W fun e W' => e = .returned (.string ⟨#[111, 107]⟩) ∧ ∃ T', GX s y n ps (k + 1) O T' W' ∧ Keep T W W' ∧ ∀ q, T' q → T q ∨ W.heap.size ≤ q := by
 obtain ⟨D, hH, hR, hS⟩ := h
 have hrl := recHead_len s hs (idsTo n) (by rw [idsTo_len]; omega) (idsTo_rng (by omega)) n (by omega)
 have hr0 := recHead_len s hs (idsTo 0) (by simp [idsTo]) (fun n hn => by simp [idsTo] at hn) 0 (by decide)
 have hal : (adds n).length = 7 * n := by
   clear hl hkk hg hS hR hH hpl hrl hk hnk
   induction n with
   | zero => rfl
   | succ n ih => rw [adds_succ, List.length_append, ih (by omega), recAdd_len n (by omega)]; omega
 obtain ⟨li, hli, hlf⟩ := hH.log_
 have hus := hR.used
 have hq := hR.quota
 have hlm := hR.lim
 have hnm := hR.names
 have hne := hH.noEmp
 have hsv := holds_saved hH (recHead s (idsTo n) n)
 refine (lineOpen y D O T W hS hO s hs wk wg hkk hg A c hl n hn ?_ ps hpl ?_ (by omega) (by omega) hne.2 hne.1 ?_ (by omega) (fun nm hnm => hsv.only nm hnm)).mono ?_
 · intro F dg mg A' c' W' hd hA hF
   exact load1C F dg mg D W' hd A' c' s hs (Rd.Sl.narrow Nat.one_pos hA (fun k _ e => .inl e)) n hn li hli _ _ hlf rfl (by show (recHead s (idsTo 0) 0 ++ adds n).length ≤ _; rw [List.length_append]; omega) hF
 · intro j hj
   have hjn : j < (idsTo n).length := by rw [idsTo_len]; omega
   have hm : (((j : Nat) : Int), ps[j]) ∈ (idsTo n).zip ps := by
     have e : (idsTo n)[j] = ((j : Nat) : Int) := by simp [idsTo]
     rw [← e, ← List.getElem_zip (h := by rw [List.length_zip]; omega)]
     exact List.getElem_mem _
   obtain ⟨i, hi, hf⟩ := hH.part _ hm
   exact ⟨i, _, by simpa using hi, hf, hps _ (List.getElem_mem hj)⟩
 · rw [hq]
   have : k * 4000 ≤ 100 * 4000 := Nat.mul_le_mul_right _ (by omega)
   omega
 · rintro e w' ⟨rfl, T', hT, hK, hN⟩
   exact ⟨rfl, T', ⟨_, _, tabl_old s hs n hn ps hpl k hnk D _ hH hR, rfl, rfl, rfl, hT⟩, hK, hN⟩
end K123
namespace P12
open Go
theorem digit_nat {d : Nat} (h : d < 10) : (UInt8.ofNat (48 + d)).toNat = 48 + d := by
 rw [UInt8.toNat_ofNat']; omega
theorem parse_snoc (c : UInt8) (hc : 48 ≤ c.toNat ∧ c.toNat ≤ 57) : ∀ (l : List UInt8) (a v : Nat), Lib.parseUint10 a l = .ok v → v < 1844674407370955162 → v * 10 + (c.toNat - 48) < 18446744073709551616 → Lib.parseUint10 a (l ++ [c]) = .ok (v * 10 + (c.toNat - 48))
 | [], a, v, h, h1, h2 => by
   simp only [Lib.parseUint10] at h
   injection h with h
   subst h
   simp only [List.nil_append, Lib.parseUint10]
   rw [if_pos hc, if_neg (by omega), if_neg (by omega)]
 | x :: r, a, v, h, h1, h2 => by
   simp only [List.cons_append, Lib.parseUint10] at h ⊢
   split at h
   · rename_i hx
     rw [if_pos hx]
     split at h
     · cases h
     · rename_i h3
       rw [if_neg h3]
       split at h
       · cases h
       · rename_i h4
         rw [if_neg h4]
         exact parse_snoc c hc r _ v h h1 h2
   · cases h
theorem parse_dec (u : Nat) (h : u < 18446744073709551616) : Lib.parseUint10 0 (Lib.decDigits u) = .ok u := by
 induction u using Nat.strongRecOn with
 | _ u ih =>
   by_cases h10 : u < 10
   · rw [Lib.decDigits_one h10]
     have hd := digit_nat h10
     simp only [Lib.parseUint10]
     rw [if_pos (by omega), if_neg (by omega), if_neg (by omega), hd]
     simp
   · rw [Lib.decDigits, dif_neg h10]
     have hd := digit_nat (d := u % 10) (by omega)
     rw [parse_snoc (UInt8.ofNat (48 + u % 10)) (by omega) _ 0 (u / 10) (ih (u / 10) (by omega) (by omega)) (by omega) (by omega), hd]
     congr 1
     omega
def NumCh (b : UInt8) : Prop := b.toNat = 45 ∨ 48 ≤ b.toNat ∧ b.toNat ≤ 57
theorem dec_ch (u : Nat) : ∀ b ∈ Lib.decDigits u, 48 ≤ b.toNat ∧ b.toNat ≤ 57 := by
 induction u using Nat.strongRecOn with
 | _ u ih =>
   intro b hb
   by_cases h10 : u < 10
   · rw [Lib.decDigits_one h10] at hb
     have := List.mem_singleton.1 hb
     rw [this, digit_nat h10]; omega
   · rw [Lib.decDigits, dif_neg h10] at hb
     rcases List.mem_append.1 hb with hb | hb
     · exact ih (u / 10) (by omega) b hb
     · rw [List.mem_singleton.1 hb, digit_nat (by omega)]; omega
theorem dec_ne (u : Nat) : Lib.decDigits u ≠ [] := fun e => by
 have := Lib.nDigits_pos u
 have h2 := Lib.decDigits_length u
 rw [e] at h2
 simp at h2; omega
theorem dec_len {u : Nat} (h : u < 18446744073709551616) : (Lib.decDigits u).length ≤ 20 := by
 rw [Lib.decDigits_length]
 have h1 := Lib.nDigits_pos u
 by_cases h0 : u = 0
 · subst h0; rw [Lib.nDigits_small (by decide)]; decide
 · have := Lib.numDigits_eq u (by omega) h
   split at this <;> omega
theorem parseU (u : Nat) (h : u < 18446744073709551616) : Lib.parseUintB 64 (Lib.decDigits u) = .ok u := by
 rw [Lib.parseUintB_64]
 unfold Lib.parseMag
 rw [if_neg (dec_ne u)]
 exact parse_dec u h
theorem parseI (n : Int) (h0 : -9223372036854775808 ≤ n) (h1 : n ≤ 9223372036854775807) : Lib.parseIntB 64 (Lib.itoa n) = .ok n := by
 unfold Lib.itoa
 by_cases hn : n < 0
 · rw [if_pos hn, Lib.parseIntB_minus, parseU n.natAbs (by omega)]
   simp only [Lib.signedC]
   rw [if_neg (by omega)]
   congr 1
   omega
 · rw [if_neg hn]
   obtain ⟨c, r, hc⟩ : ∃ c r, Lib.decDigits n.toNat = c :: r := by
     cases h : Lib.decDigits n.toNat with
     | nil => exact absurd h (dec_ne _)
     | cons c r => exact ⟨c, r, rfl⟩
   have hch := dec_ch n.toNat c (by rw [hc]; exact List.mem_cons_self)
   rw [hc, Lib.parseIntB_plain 64 c r (by omega) (by omega), ← hc, parseU n.toNat (by omega)]
   simp only [Lib.signlessC]
   rw [if_neg (by omega)]
   congr 1
   omega
theorem itoa_ch (n : Int) : ∀ b ∈ Lib.itoa n, NumCh b := by
 intro b hb
 unfold Lib.itoa at hb
 split at hb
 · rcases List.mem_cons.1 hb with rfl | hb
   · exact .inl rfl
   · exact .inr (dec_ch _ b hb)
 · exact .inr (dec_ch _ b hb)
theorem itoa_ne (n : Int) : Lib.itoa n ≠ [] := by
 unfold Lib.itoa
 split
 · simp
 · exact dec_ne _
theorem itoa_len {n : Int} (h0 : -9223372036854775808 ≤ n) (h1 : n ≤ 9223372036854775807) : (Lib.itoa n).length ≤ 21 := by
 unfold Lib.itoa
 split
 · have := dec_len (u := n.natAbs) (by omega); simp; omega
 · have := dec_len (u := n.toNat) (by omega); omega
def txt (t : Int) (n : Int) : List UInt8 := if t = 1 then Lib.itoa n else Lib.decDigits (IntKind.u64.wrap n).toNat
end P12
namespace K113
open Go Go.RowKit Go.Sort
open KB K2 K88 P12
abbrev Tab (w : World) : Prop := Lib.TabIs Tryz.prog w "internal/strconv.uint64pow10" .u64 Lib.pow10Tab
theorem tab_keep {F : Nat → Prop} {w w' : World} (h : Tab w) (k : Keep F w w') (hF : ∀ g, Tryz.prog.globalNamed "internal/strconv.uint64pow10" = some g → ¬ F g) : Tab w' := by
 unfold Tab Lib.TabIs World.var? at *
 cases hg : Tryz.prog.globalNamed "internal/strconv.uint64pow10" with
 | none => simp [hg] at h
 | some g =>
   simp only [hg, Option.bind_some] at h ⊢
   have hlt : g < w.heap.size := by
     rcases Nat.lt_or_ge g w.heap.size with h' | h'
     · exact h'
     · rw [Array.getElem?_eq_none h'] at h; simp at h
   rw [k.block g hlt (hF g hg)]
   exact h
theorem tab_lt {w : World} (h : Tab w) {g : Nat} (hg : Tryz.prog.globalNamed "internal/strconv.uint64pow10" = some g) : g < w.heap.size := by
 unfold Tab Lib.TabIs World.var? at h
 simp only [hg, Option.bind_some] at h
 rcases Nat.lt_or_ge g w.heap.size with h' | h'
 · exact h'
 · rw [Array.getElem?_eq_none h'] at h; simp at h
theorem tab_ext {w w' : World} (h : Tab w) (k : Ext w w') : Tab w' := tab_keep h (k.keep (fun _ => False)) (fun _ _ q => q)
theorem grow_ext (w : World) (k : Nat) (os : Array Obj) : Ext w (grow (w.drewN k) os) := by
 refine ⟨rfl, rfl, rfl, ?_, fun i hi => ?_⟩
 · simp [grow, World.drewN]
 · show (w.heap ++ os)[i]? = _
   rw [Array.getElem?_append_left hi]
theorem holds_zero0 (w : World) (T : TypeId) (nd : Nat) (hs : nd ≤ 24) : Holds (fun (b : UInt8) => Value.int .u8 (b.toNat : Int)) (w.alloc (.cells Lib.zeros24 T)) w.heap.size 0 (Array.replicate nd (0 : UInt8)) := fun j hj => by
 have hj' : j < nd := by simpa using hj
 refine ⟨?_, World.frozen?_alloc_new _ _ _ _⟩
 rw [World.cell?_alloc_new, Lib.zeros24_at _ (by omega), getElem!_pos _ j hj]
 simp
theorem fin_pos0 (w : World) (o : Obj) (dk : Array UInt8) (k : Nat) : ∃ os, (putRow (fun (b : UInt8) => Value.int .u8 (b.toNat : Int)) (w.alloc o) w.heap.size 0 dk).drewN k = grow (w.drewN k) os := by
 rw [alloc_eq_grow]
 obtain ⟨os', _, e⟩ := putRow_grow_new (fun (b : UInt8) => Value.int .u8 (b.toNat : Int)) w #[o] w.heap.size 0 dk (Nat.le_refl _)
 exact ⟨os', by rw [e]; rfl⟩
theorem fmtU0 (u : Nat) (hu64 : u < 18446744073709551616) (w : World) (htab : Tab w) :
   Calls Tryz.prog 366 #[.int .u64 u, .int .i64 10] w fun e w' => e = .returned (.string ⟨(Lib.decDigits u).toArray⟩) ∧ Ext w w' := by
 have L0 : LaysM.n246 Tryz.prog Tryz.laysM173_ren := { Tryz.laysM173 with }
 by_cases hs : u < 100
 · have HS : Calls Tryz.prog 342 #[.int .i64 u] w fun e w' => e = .returned (.string ⟨(Lib.decDigits u).toArray⟩) ∧ w' = w := Any.internal_strconv_small { L0 with } u hs w
   have HS := As.mk HS
   have hc : IntKind.i64.wrap (u : Int) = u := by rw [IntKind.wrap_i64]; omega
   clear L0 htab
   go_enter Tryz.func366, Tryz.ntmps366
   go_wp2_with (fail)
   refine HS.out.mono ?_; rintro e w' ⟨rfl, rfl⟩
   go_wp2
   go_ret
   exact ⟨rfl, Ext.refl _⟩
 · have hu1 : 1 ≤ u := by omega
   have hnd20 : Lib.nDigits u ≤ 20 := by have := Lib.numDigits_eq u hu1 hu64; split at this <;> omega
   have hal : Tryz.prog.arrayLen 402 = 24 := by kernel_rfl
   have hsl : ∀ W, (Instr.sliceAt 402 (.pointer (some ⟨w.heap.size, 0, none⟩)) none (some (.int .i64 (Lib.nDigits u : Int))) none).run Tryz.prog W = .ok (.slice (some ⟨w.heap.size, 0, none⟩) (Lib.nDigits u) 24) W := fun W => by
     rw [run_sliceAt_array_h W 402 ⟨w.heap.size, 0, none⟩ (by kernel_rfl) .i64 (Lib.nDigits u : Int) (by omega) (by rw [hal]; omega)]
     go_simp
   have hH0 := holds_zero0 w 402 (Lib.nDigits u) (by omega)
   have hfmt : Calls Tryz.prog 344 #[.slice (some ⟨w.heap.size, 0, none⟩) (Array.replicate (Lib.nDigits u) (0 : UInt8)).size 24, .int .u64 u] (w.alloc (.cells Lib.zeros24 402)) _ := Any.internal_strconv_formatBase10 { L0 with } w.heap.size 0 24 u (Array.replicate (Lib.nDigits u) 0) (w.alloc (.cells Lib.zeros24 402)) hH0 (by rw [Array.size_replicate]; exact Lib.lt_pow_nDigits u) hu64 (by rw [Array.size_replicate]; omega)
   rw [Array.size_replicate] at hfmt
   have hnum : Calls Tryz.prog 343 #[.int .u64 u] (w.alloc (.cells Lib.zeros24 402)) fun e w' => e = .returned (.int .i64 (Lib.nDigits u)) ∧ w' = (w.alloc (.cells Lib.zeros24 402)) := Any.internal_strconv_numDigits { L0 with } u hu1 hu64 _ (Lib.tabIs_alloc htab _)
   have HF := As.mk hfmt
   have HN := As.mk hnum
   have HH0 := Lib.hid hH0
   clear hH0 hal L0 hfmt hnum htab
   go_enter Tryz.func366, Tryz.ntmps366
   go_wp2_with (fail)
   refine HN.out.mono ?_; rintro e w' ⟨rfl, rfl⟩
   go_wp2_with (fail)
   refine HF.out.mono ?_
   rintro e w' ⟨rfl, k, v', dk, rfl, hF⟩
   have hcv : (convert 120 9 (.slice (some ⟨w.heap.size, 0, none⟩) (Lib.nDigits u) 24)).run Tryz.prog ((putRow (fun (b : UInt8) => Value.int .u8 (b.toNat : Int)) (w.alloc (.cells Lib.zeros24 402)) w.heap.size 0 dk).drewN k) = .ok (.string ⟨(Lib.decDigits u).toArray⟩) ((putRow (fun (b : UInt8) => Value.int .u8 (b.toNat : Int)) (w.alloc (.cells Lib.zeros24 402)) w.heap.size 0 dk).drewN k) := by
     have h := run_convert_bytes_back (P := Tryz.prog) ((putRow (fun (b : UInt8) => Value.int .u8 (b.toNat : Int)) (w.alloc (.cells Lib.zeros24 402)) w.heap.size 0 dk).drewN k) 120 9 5 ⟨w.heap.size, 0, none⟩ 24 (Lib.decDigits u) Tryz.underlying120 Tryz.underlying5 Tryz.underlying9 (fun j hj => by
       rw [Lib.row_is_numeral hF j hj, Lib.add_plain, World.cell?_drewN]
       exact cell?_putRow (fun (b : UInt8) => Value.int .u8 (b.toNat : Int)) _ w.heap.size 0 _ dk HH0.out (by rw [hF.size, Array.size_replicate]) j (by rw [hF.size]; rw [Lib.decDigits_length] at hj; exact hj))
     rw [Lib.decDigits_length] at h
     exact h
   go_wp2
   go_ret
   obtain ⟨os, eo⟩ := fin_pos0 w (.cells Lib.zeros24 402) dk k
   exact ⟨rfl, by rw [eo]; exact grow_ext w k os⟩
theorem fmtU (u : Nat) (hu64 : u < 18446744073709551616) (w : World) (htab : Tab w) :
   Calls Tryz.prog 335 #[.int .u64 u, .int .i64 10] w fun e w' => e = .returned (.string ⟨(Lib.decDigits u).toArray⟩) ∧ Ext w w' := by
 have H := As.mk (fmtU0 u hu64 w htab)
 clear htab
 go_enter Tryz.func335, Tryz.ntmps335
 go_wp2_with (fail)
 refine H.out.mono ?_; rintro e w' ⟨rfl, hE⟩
 go_wp2
 go_ret
 exact ⟨rfl, hE⟩
end K113
namespace K114
open Go Go.RowKit
open KB K1 K2 K88 K89 P12 K113
theorem dig1 : ∀ d : Fin 10, (⟨#[48, 49, 50, 51, 52, 53, 54, 55, 56, 57]⟩ : ByteArray).extract d.val (d.val + 1) = ⟨#[UInt8.ofNat (48 + d.val)]⟩ := by decide
theorem ba_of {s : ByteArray} {l : List UInt8} (h : s.data.toList = l) : s = ⟨l.toArray⟩ := by
 subst h; cases s; simp
theorem rfitsC (t : Int) (n : Int) (ht : t = 1 ∨ t = 2) (w : World) : Calls Tryz.prog 42 #[.int .i64 t, valV (n, emp)] w fun e w' => e = .returned (.bool true) ∧ Ext w w' := by
 have hB := bN w (.cells #[.int .i64 n, .string emp] 33)
 have hE := (Ext.refl w).alloc (.cells #[.int .i64 n, .string emp] 33)
 (have p0 := bC (hB) 0; have p1 := bC (hB) 1)
 rcases ht with rfl | rfl
 all_goals
   go_enter Tryz.func42, Tryz.ntmps42
   go_wp2_with (fail)
   go_ret
   exact ⟨rfl, hE⟩
theorem digitsC (u : Nat) (hu : u < 18446744073709551616) (w : World) : Calls Tryz.prog 43 #[.int .u64 u] w fun e w' => e = .returned (.string ⟨(Lib.decDigits u).toArray⟩) ∧ Ext w w' := by
 go_enter Tryz.func43, Tryz.ntmps43
 go_wp2_with (fail)
 go_loopw [0, 3, 4] (fun a s i wr => ∃ (x k : Nat) (b : ByteArray), a = .int .u64 x ∧ s = .string b ∧ i = .int .i64 k ∧ k ≤ 20 ∧ x < 10 ^ (20 - k) ∧ x ≤ u ∧ (k = 0 ∨ x ≠ 0) ∧ b.size = k ∧ As (Lib.decDigits x ++ b.data.toList = Lib.decDigits u) ∧ Ext w wr) (fun _ _ i _ => 20 - (intOf i).toNat)
 case atStart => exact ⟨u, 0, emp, rfl, rfl, rfl, by omega, Nat.lt_of_lt_of_le hu (by decide), Nat.le_refl _, .inl rfl, rfl, ⟨by simp⟩, Ext.refl _⟩
 case round =>
   obtain ⟨x, k, b, rfl, rfl, rfl, hk, hx, hxu, hnz, hbz, hd, hE⟩ := hrel
   have hcz : ¬ 9223372036854775807 < 1 + b.size := by omega
   have HB := As.mk hbz
   clear hbz
   by_cases hlt : k < 20
   · have hs := dig1 ⟨x % 10, Nat.mod_lt _ (by decide)⟩
     have h10 : x % 10 < 10 := Nat.mod_lt _ (by decide)
     dsimp only at hs
     have e8 : (48 + UInt8.ofNat (x % 10) : UInt8) = UInt8.ofNat (48 + x % 10) := by simp
     have hcat : ((⟨#[48 + UInt8.ofNat (x % 10)]⟩ : ByteArray) ++ b).data.toList = UInt8.ofNat (48 + x % 10) :: b.data.toList := by rw [← e8]; simp
     by_cases hend : x / 10 = 0
     · have hx10 : x < 10 := by omega
       have hfin : Lib.decDigits u = UInt8.ofNat (48 + x % 10) :: b.data.toList := by rw [← hd.out, Lib.decDigits_one hx10, Nat.mod_eq_of_lt hx10]; rfl
       have HF := As.mk (ba_of (hcat.trans hfin.symm))
       clear hcat hfin hd
       clear e8
       go_wp2_with (fail)
       go_ret
       exact ⟨congrArg (fun s => Ending.returned (Value.string s)) HF.out, hE⟩
     · have hx10 : ¬ x < 10 := by omega
       have hnx : Lib.decDigits (x / 10) ++ ((⟨#[48 + UInt8.ofNat (x % 10)]⟩ : ByteArray) ++ b).data.toList = Lib.decDigits u := by
         rw [hcat, ← hd.out]
         conv => rhs; rw [Lib.decDigits, dif_neg hx10]
         simp
       have hpw : x / 10 < 10 ^ (20 - (k + 1)) := by
         have e : 20 - k = (20 - (k + 1)) + 1 := by omega
         rw [e, Nat.pow_succ] at hx
         omega
       have HN := As.mk hnx
       have HP := As.mk hpw
       clear hcat e8 hd hnx hpw hx
       go_wp2_with (fail)
       go_roundw
       case rel => exact ⟨x / 10, k + 1, _, by simp, rfl, by go_num, by omega, HP.out, by omega, .inr hend, (by rw [ByteArray.size_append, HB.out]; show 1 + k = k + 1; omega), ⟨HN.out⟩, hE⟩
       case measure => simp [intOf] <;> omega
   · exfalso
     obtain rfl : k = 20 := by omega
     simp at hx
     omega
theorem refTextC (t n : Int) (ht : t = 1 ∨ t = 2) (hn : I64 n) (w : World) : Calls Tryz.prog 19 #[.int .i64 t, valV (n, emp)] w fun e w' => e = .returned (.string (BA (txt t n))) ∧ Ext w w' := by
 have hB := bN w (.cells #[.int .i64 n, .string emp] 33)
 have hE := (Ext.refl w).alloc (.cells #[.int .i64 n, .string emp] 33)
 have HF := As.mk (fun W => rfitsC t n ht W)
 have HD := As.mk digitsC
 obtain ⟨hn0, hn1⟩ := hn
 (have q0 := bC (hB) 0; have q1 := bC (hB) 1)
 rcases ht with rfl | rfl
 · by_cases hneg : n < 0
   · have hu : (n.natAbs : Int) = -n := by omega
     have hw1 : IntKind.u64.wrap (-IntKind.u64.wrap n) = (n.natAbs : Int) := by rw [IntKind.wrap_u64, IntKind.wrap_u64]; omega
     have hlt : n.natAbs < 18446744073709551616 := by omega
     have htx : txt 1 n = 45 :: Lib.decDigits n.natAbs := by unfold txt Lib.itoa; rw [if_pos rfl, if_pos hneg]
     have HT := As.mk htx
     have hcz : ¬ 9223372036854775807 < 1 + (Lib.decDigits n.natAbs).length := by have := dec_len hlt; omega
     generalize n.natAbs = m at *
     clear htx hu
     go_enter Tryz.func19, Tryz.ntmps19
     go_wp2_with (fail)
     refine (HF.out _).mono ?_; rintro e w1 ⟨rfl, hE1⟩
     have hB1 := hE1.blk hB
     (have p0 := bC (hB1) 0; have p1 := bC (hB1) 1)
     go_wp2_with (fail)
     refine (HD.out m hlt _).mono ?_; rintro e w2 ⟨rfl, hE2⟩
     go_wp2_with (fail)
     go_ret
     exact ⟨by rw [HT.out]; rfl, (hE.trans hE1).trans hE2⟩
   · have hw1 : IntKind.u64.wrap n = (n.toNat : Int) := by rw [IntKind.wrap_u64]; omega
     have hlt : n.toNat < 18446744073709551616 := by omega
     have htx : txt 1 n = Lib.decDigits n.toNat := by unfold txt Lib.itoa; rw [if_pos rfl, if_neg hneg]
     have HT := As.mk htx
     generalize n.toNat = m at *
     clear htx
     go_enter Tryz.func19, Tryz.ntmps19
     go_wp2_with (fail)
     refine (HF.out _).mono ?_; rintro e w1 ⟨rfl, hE1⟩
     have hB1 := hE1.blk hB
     (have p0 := bC (hB1) 0; have p1 := bC (hB1) 1)
     go_wp2_with (fail)
     refine (HD.out m hlt _).mono ?_; rintro e w2 ⟨rfl, hE2⟩
     go_wp2_with (fail)
     go_ret
     exact ⟨by rw [HT.out]; rfl, (hE.trans hE1).trans hE2⟩
 · have hw1 : IntKind.u64.wrap n = ((IntKind.u64.wrap n).toNat : Int) := by rw [IntKind.wrap_u64]; omega
   have hlt : (IntKind.u64.wrap n).toNat < 18446744073709551616 := by rw [IntKind.wrap_u64]; omega
   have htx : txt 2 n = Lib.decDigits (IntKind.u64.wrap n).toNat := by unfold txt; rw [if_neg (by decide)]
   have HT := As.mk htx
   generalize (IntKind.u64.wrap n).toNat = m at *
   clear htx
   go_enter Tryz.func19, Tryz.ntmps19
   go_wp2_with (fail)
   refine (HF.out _).mono ?_; rintro e w1 ⟨rfl, hE1⟩
   have hB1 := hE1.blk hB
   (have p0 := bC (hB1) 0; have p1 := bC (hB1) 1)
   go_wp2_with (fail)
   refine (HD.out m hlt _).mono ?_; rintro e w2 ⟨rfl, hE2⟩
   go_wp2_with (fail)
   go_ret
   exact ⟨by rw [HT.out]; rfl, (hE.trans hE1).trans hE2⟩
end K114
end Go.Proofs.YtbjeejimedhniaaGreatDoor
namespace Go.Proofs
open Go.Shelf
def Tryz.laysPu14_ren : Go.Shelf.Ren := ⟨fun | 14 => 270 | 16 => 331 | 17 => 330 | 19 => 363 | 20 => 364 | 21 => 359 | 22 => 360 | 23 => 361 | 24 => 362 | 25 => 396 | 27 => 126 | 26 => 397 | 28 => 227 | 29 => 305 | 30 => 342 | 31 => 343 | 32 => 344 | 33 => 345 | 35 => 318 | 34 => 368 | 36 => 369 | 37 => 370 | 38 => 371 | 39 => 399 | 40 => 400 | n => n, fun | 9 => 9 | 3 => 3 | 22 => 115 | 24 => 129 | 25 => 353 | 4 => 4 | 34 => 420 | 5 => 5 | 36 => 347 | 37 => 120 | 0 => 0 | 39 => 421 | 21 => 21 | 44 => 451 | 47 => 191 | 50 => 469 | 48 => 467 | 2 => 2 | 52 => 402 | 55 => 404 | 59 => 427 | 60 => 23 | 20 => 20 | 61 => 428 | 65 => 470 | 66 => 471 | 67 => 133 | n => n, fun | 0 => 4 | 1 => 5 | 2 => 3 | 3 => 6 | 4 => 7 | n => n⟩
theorem Tryz.laysPu14 : Go.Proofs.LaysPu.n14 Tryz.prog Tryz.laysPu14_ren := {
  mixed := by kernel_rfl
  f14 := Tryz.func270.trans (congrArg some (by kernel_rfl))
  f16 := Tryz.func331.trans (congrArg some (by kernel_rfl))
  f17 := Tryz.func330.trans (congrArg some (by kernel_rfl))
  f19 := Tryz.func363.trans (congrArg some (by kernel_rfl))
  f20 := Tryz.func364.trans (congrArg some (by kernel_rfl))
  f21 := Tryz.func359.trans (congrArg some (by kernel_rfl))
  f22 := Tryz.func360.trans (congrArg some (by kernel_rfl))
  f23 := Tryz.func361.trans (congrArg some (by kernel_rfl))
  f24 := Tryz.func362.trans (congrArg some (by kernel_rfl))
  f25 := Tryz.func396.trans (congrArg some (by kernel_rfl))
  f26 := Tryz.func397.trans (congrArg some (by kernel_rfl))
  f27 := Tryz.func126.trans (congrArg some (by kernel_rfl))
  f28 := Tryz.func227.trans (congrArg some (by kernel_rfl))
  f29 := Tryz.func305.trans (congrArg some (by kernel_rfl))
  f30 := Tryz.func342.trans (congrArg some (by kernel_rfl))
  f31 := Tryz.func343.trans (congrArg some (by kernel_rfl))
  f32 := Tryz.func344.trans (congrArg some (by kernel_rfl))
  f33 := Tryz.func345.trans (congrArg some (by kernel_rfl))
  f34 := Tryz.func368.trans (congrArg some (by kernel_rfl))
  f35 := Tryz.func318.trans (congrArg some (by kernel_rfl))
  f36 := Tryz.func369.trans (congrArg some (by kernel_rfl))
  f37 := Tryz.func370.trans (congrArg some (by kernel_rfl))
  f38 := Tryz.func371.trans (congrArg some (by kernel_rfl))
  f39 := Tryz.func399.trans (congrArg some (by kernel_rfl))
  f40 := Tryz.func400.trans (congrArg some (by kernel_rfl))
  t0 := Tryz.underlying0
  a0 := Tryz.isAgg0
  z0 := Tryz.sizeOf0
  v0 := Tryz.zeroValue0
  i0 := by kernel_rfl
  t2 := Tryz.underlying2
  a2 := Tryz.isAgg2
  z2 := Tryz.sizeOf2
  v2 := Tryz.zeroValue2
  i2 := by kernel_rfl
  t3 := Tryz.underlying3
  a3 := Tryz.isAgg3
  z3 := Tryz.sizeOf3
  v3 := Tryz.zeroValue3
  i3 := by kernel_rfl
  t4 := Tryz.underlying4
  a4 := Tryz.isAgg4
  z4 := Tryz.sizeOf4
  v4 := Tryz.zeroValue4
  i4 := by kernel_rfl
  t5 := Tryz.underlying5
  a5 := Tryz.isAgg5
  z5 := Tryz.sizeOf5
  v5 := Tryz.zeroValue5
  i5 := by kernel_rfl
  t9 := Tryz.underlying9
  a9 := Tryz.isAgg9
  z9 := Tryz.sizeOf9
  v9 := Tryz.zeroValue9
  i9 := by kernel_rfl
  t20 := Tryz.underlying20
  a20 := Tryz.isAgg20
  z20 := Tryz.sizeOf20
  v20 := Tryz.zeroValue20
  i20 := by kernel_rfl
  t21 := Tryz.underlying21
  a21 := Tryz.isAgg21
  z21 := Tryz.sizeOf21
  v21 := Tryz.zeroValue21
  i21 := by kernel_rfl
  t22 := Tryz.underlying115
  a22 := Tryz.isAgg115
  z22 := Tryz.sizeOf115
  v22 := Tryz.zeroValue115
  i22 := by kernel_rfl
  t24 := Tryz.underlying129
  a24 := Tryz.isAgg129
  z24 := Tryz.sizeOf129
  v24 := Tryz.zeroValue129
  i24 := by kernel_rfl
  t25 := Tryz.underlying353
  a25 := Tryz.isAgg353
  z25 := Tryz.sizeOf353
  v25 := Tryz.zeroValue353
  i25 := by kernel_rfl
  t34 := Tryz.underlying420
  a34 := Tryz.isAgg420
  z34 := Tryz.sizeOf420
  v34 := Tryz.zeroValue420
  i34 := by kernel_rfl
  c34 := by kernel_rfl
  t36 := Tryz.underlying347
  a36 := Tryz.isAgg347
  z36 := Tryz.sizeOf347
  v36 := Tryz.zeroValue347
  i36 := by kernel_rfl
  t37 := Tryz.underlying120
  a37 := Tryz.isAgg120
  z37 := Tryz.sizeOf120
  v37 := Tryz.zeroValue120
  i37 := by kernel_rfl
  t39 := Tryz.underlying421
  a39 := Tryz.isAgg421
  z39 := Tryz.sizeOf421
  v39 := Tryz.zeroValue421
  i39 := by kernel_rfl
  t44 := Tryz.underlying451
  a44 := Tryz.isAgg451
  z44 := Tryz.sizeOf451
  v44 := Tryz.zeroValue451
  i44 := by kernel_rfl
  t47 := Tryz.underlying191
  a47 := Tryz.isAgg191
  z47 := Tryz.sizeOf191
  v47 := Tryz.zeroValue191
  i47 := by kernel_rfl
  t48 := Tryz.underlying467
  a48 := Tryz.isAgg467
  z48 := Tryz.sizeOf467
  v48 := Tryz.zeroValue467
  i48 := by kernel_rfl
  t50 := Tryz.underlying469
  a50 := Tryz.isAgg469
  z50 := Tryz.sizeOf469
  v50 := Tryz.zeroValue469
  i50 := by kernel_rfl
  t52 := Tryz.underlying402
  a52 := Tryz.isAgg402
  z52 := Tryz.sizeOf402
  v52 := Tryz.zeroValue402
  i52 := by kernel_rfl
  t55 := Tryz.underlying404
  a55 := Tryz.isAgg404
  z55 := Tryz.sizeOf404
  v55 := Tryz.zeroValue404
  i55 := by kernel_rfl
  t59 := Tryz.underlying427
  a59 := Tryz.isAgg427
  z59 := Tryz.sizeOf427
  v59 := Tryz.zeroValue427
  i59 := by kernel_rfl
  t60 := Tryz.underlying23
  a60 := Tryz.isAgg23
  z60 := Tryz.sizeOf23
  v60 := Tryz.zeroValue23
  i60 := by kernel_rfl
  t61 := Tryz.underlying428
  a61 := Tryz.isAgg428
  z61 := Tryz.sizeOf428
  t65 := Tryz.underlying470
  a65 := Tryz.isAgg470
  z65 := Tryz.sizeOf470
  v65 := Tryz.zeroValue470
  i65 := by kernel_rfl
  t66 := Tryz.underlying471
  a66 := Tryz.isAgg471
  z66 := Tryz.sizeOf471
  v66 := Tryz.zeroValue471
  i66 := by kernel_rfl
  t67 := Tryz.underlying133
  a67 := Tryz.isAgg133
  z67 := Tryz.sizeOf133
  v67 := Tryz.zeroValue133
  i67 := by kernel_rfl
  g0 := by kernel_rfl
  m0 := by kernel_rfl
  g1 := by kernel_rfl
  m1 := by kernel_rfl
  g2 := by kernel_rfl
  m2 := by kernel_rfl
  g3 := by kernel_rfl
  m3 := by kernel_rfl
  g4 := by kernel_rfl
  m4 := by kernel_rfl }
open Go.RowKit in
theorem Tryz.strconv_ParseUint_10_at64_ok (s : ByteArray) (hmax : s.size ≤ 9223372036854775806) (u : Nat) (h : Lib.parseUintB 64 s.data.toList = .ok u) (w : World) :
    Calls Tryz.prog 270 #[.string s, .int .i64 10, .int .i64 64] w fun e w' => e = .returned (.tuple #[.int .u64 u, .nilIface]) ∧ (w' = w ∨ w' = Lib.bytesWorld w 5 s) := Any.strconv_ParseUint_10_at64_ok Tryz.laysPu14 s hmax u h w
end Go.Proofs
namespace Go.Proofs.YtbjeejimedhniaaGreatDoor
namespace K118
open Go Go.RowKit Go.Sort
open KB K2 K88 K89 K102 P12 K113
theorem says (t n : Int) (ht : t = 1 ∨ t = 2) (hn : I64 n) (w : World) (htab : Tab w) : Says w t (BA (txt t n)) n := by
 have hn0 : -9223372036854775808 ≤ n ∧ n ≤ 9223372036854775807 := by unfold I64 at hn; omega
 have hne : txt t n ≠ [] := by
   unfold txt; split
   · exact itoa_ne n
   · exact dec_ne _
 have hln : (txt t n).length ≤ 21 := by
   unfold txt; split
   · exact itoa_len hn0.1 hn0.2
   · have := dec_len (u := (IntKind.u64.wrap n).toNat) (by rw [IntKind.wrap_u64]; omega)
     omega
 refine ⟨hn, fun e => hne ?_, ?_⟩
 · have := congrArg (fun s : ByteArray => s.data.toList) e
   simpa using this
 rcases ht with rfl | rfl
 · refine .inl ⟨rfl, fun W hW => ?_, fun W hW => ?_⟩
   · refine (Tryz.strconv_ParseInt_10_at64_ok _ (by show (txt 1 n).length ≤ _; omega) n (parseI n hn0.1 hn0.2) W).mono ?_
     rintro e w' ⟨rfl, rfl | ⟨t, rfl⟩⟩
     · exact ⟨rfl, Ext.refl _⟩
     · exact ⟨rfl, bytesWorld_ext _ _ _⟩
   · refine (Tryz.strconv_FormatInt_10 n hn0.1 hn0.2 W (tab_ext htab hW)).mono ?_
     rintro e w' ⟨rfl, k, os, rfl⟩
     exact ⟨rfl, grow_ext W k os⟩
 · have hu : IntKind.u64.wrap n = ((IntKind.u64.wrap n).toNat : Int) := by rw [IntKind.wrap_u64]; omega
   have hlt : (IntKind.u64.wrap n).toNat < 18446744073709551616 := by rw [IntKind.wrap_u64]; omega
   have hb : IntKind.i64.wrap (IntKind.u64.wrap n) = n := by rw [IntKind.wrap_u64, IntKind.wrap_i64]; omega
   have htx : txt 2 n = Lib.decDigits (IntKind.u64.wrap n).toNat := by unfold txt; rw [if_neg (by decide)]
   rw [htx] at hln ⊢
   refine .inr ⟨rfl, IntKind.u64.wrap n, rfl, hb, fun W hW => ?_, fun W hW => ?_⟩
   · rw [hu]
     refine (Tryz.strconv_ParseUint_10_at64_ok (BA (Lib.decDigits (IntKind.u64.wrap n).toNat)) (by show (Lib.decDigits _).length ≤ _; omega) _ (parseU _ hlt) W).mono ?_
     rintro e w' ⟨rfl, rfl | rfl⟩
     · exact ⟨rfl, Ext.refl _⟩
     · exact ⟨rfl, bytesWorld_ext _ _ _⟩
   · rw [hu]
     exact fmtU _ hlt W (tab_ext htab hW)
end K118
namespace K112
open Go Go.RowKit Go.Shelf Go.Proofs
open KB KB2 K35 K38 K42 K75 K89 K98 K99 K100
open K101
attribute [local go_sem] Oper.semAt_some
theorem run2C (src : List UInt8) (hsz : src.length ≤ 1000000000) (outs : List (List UInt8)) (ws : List (List ByteArray)) (hol : outs.length = ws.length) (hwl : ws.length ≤ (linesL src).length) (hN : ws.length < 400)
   (hbl : ∀ k (h : k < (linesL src).length), ws.length ≤ k → wds (linesL src)[k] = [] ∧ (linesL src)[k].length ≤ 1000000)
   (hw : ∀ k (h : k < (linesL src).length) (h2 : k < ws.length), (wds (linesL src)[k]).map BA = ws[k] ∧ NoMark (wds (linesL src)[k]) ∧ ws[k].length ≤ 1000 ∧ 1 ≤ ws[k].length ∧ (linesL src)[k].length ≤ 1000000) (hout : (toldL outs).length ≤ 1000000000) (w : World)
   (hS : ∀ (W : World) (db dg mg : Nat) (O : Nat → Prop), Ext w W → DiskAt (fun q => O q ∨ q = db) W dg mg ⟨1048576, 0, 0, [], [], true⟩ → W.heap[db]? = some (.cells #[BX dg, .pointer none, .slice none 0 0, .int .i64 0, .int .i64 0, .int .i64 0] 118 (0, 0)) → w.heap.size ≤ db → w.heap.size ≤ dg → w.heap.size ≤ mg → ¬ O db → (∀ q, O q → q < W.heap.size) → (∀ q, O q → w.heap.size ≤ q) →
     ∃ S T, Desk db outs ws S ∧ S 0 O T W ∧ ∀ q, T q → w.heap.size ≤ q) :
   Calls Tryz.prog 20 #[.string (BA src)] w fun e w' => e = .returned (.string (BA (toldL outs))) ∧ Ext w w' := by
 refine (callsIn_wide (n := 3)).1 ?_
 refine callsIn_of_wp_marks Tryz.func20 rfl trivial ?_ rfl
 simp only [Tryz.ntmps20, List.size_toArray, List.length_cons, List.length_nil, Nat.reduceAdd, Nat.reduceSub, Array.replicate_succ, Array.replicate_zero, List.push_toArray, List.append_toArray, List.nil_append, List.cons_append]
 have HNEW := As.mk (newC (fun _ => False) 1048576 (by decide) w (fun _ q => q.elim))
 gi_wp2_with (first | (refine ⟨trivial, ?_⟩; gi_at_call 26; refine (callsIn_wide.2 HNEW.out).mono ?_; rintro e w1 ⟨dg, mg, rfl, hdg, hmg, hD1, hE1⟩) | (gi_at_call 26; refine (callsIn_wide.2 HNEW.out).mono ?_; rintro e w1 ⟨dg, mg, rfl, hdg, hmg, hD1, hE1⟩) | (refine ⟨trivial, ?_⟩; gi_at_call 44; refine (callsIn_wide.2 (splitSeqC (BA src) _)).mono ?_; rintro e w2 ⟨rfl, rfl⟩) | (gi_at_call 44; refine (callsIn_wide.2 (splitSeqC (BA src) _)).mono ?_; rintro e w2 ⟨rfl, rfl⟩))
 obtain ⟨s7, z0, z1, z2, z3, z4, z5, z6, hE17⟩ := alloc7 w1 (.cells #[BX dg, .pointer none, .slice none 0 0, .int .i64 0, .int .i64 0, .int .i64 0] 118) (.cells #[BX w1.heap.size] 116) (.cells #[.pointer none, .slice none 0 0] 122) (.cells #[.int .i64 0] 3) (.cells #[.string (BA src)] 9) (.cells #[.string ⟨#[10]⟩] 9) (.cells #[.int .i64 0] 3)
 obtain ⟨W2, hW2⟩ : ∃ W2, ((((((w1.alloc (.cells #[BX dg, .pointer none, .slice none 0 0, .int .i64 0, .int .i64 0, .int .i64 0] 118)).alloc (.cells #[BX w1.heap.size] 116)).alloc (.cells #[.pointer none, .slice none 0 0] 122)).alloc (.cells #[.int .i64 0] 3)).alloc (.cells #[.string (BA src)] 9)).alloc (.cells #[.string ⟨#[10]⟩] 9)).alloc (.cells #[.int .i64 0] 3) = W2 := ⟨_, rfl⟩
 rw [hW2] at s7 z0 z1 z2 z3 z4 z5 z6 hE17
 have hy := hE1.size
 obtain ⟨y, hyy⟩ : ∃ y, w1.heap.size = y := ⟨_, rfl⟩
 have hD2 := disk_narrow (G := fun q => (fun q => y < q ∧ q ≤ y + 6) q ∨ q = y) hD1 (fun k hk q => q.elim (fun q => by dsimp only at q; omega) (fun q => by omega))
 rw [hyy] at s7 z0 z1 z2 z3 z4 z5 z6 hy
 obtain ⟨S, T, hDk, hS0, hT0⟩ := hS W2 y dg mg (fun q => y < q ∧ q ≤ y + 6) (hE1.trans hE17) (hD2.ext hE17) z0 (by omega) hdg hmg (by omega) (fun q h => by omega) (fun q h => by omega)
 have hy2 : W2.heap.size = y + 7 := s7
 have HOUT := As.mk hout
 have HS := As.mk hy2
 have e1 : w1.heap.size + 1 = y + 1 := by rw [hyy]
 simp only [hyy, Nat.add_assoc, Nat.reduceAdd] at hW2 ⊢
 rw [hW2]
 refine rangeLines (y + 5) (y + 4) (y + 6) (by omega) (by omega) (by omega) (by omega) (by omega) rfl src hsz z5 z4 z6 (fun k => Iv w.heap.size y outs S w (min k ws.length)) ?_ ?_ ?_ (fun k a' => ∀ hk : k < (linesL src).length, a' = ⟨(fun x => #[.string (BA src), undef, .string ⟨#[]⟩, .pointer (some ⟨y + 1, 0, none⟩), .pointer (some ⟨y + 2, 0, none⟩), .pointer (some ⟨y + 3, 0, none⟩), .string x, undef, .pointer (some ⟨dg, 0, none⟩), .agg #[.pointer (some ⟨dg, 0, none⟩), .pointer none, .slice none 0 0, .int .i64 0, .int .i64 0, .int .i64 0], .pointer (some ⟨y, 0, none⟩), .string (BA src), .func (.func 178) #[] #[.pointer (some ⟨y + 5, 0, none⟩), .pointer (some ⟨y + 4, 0, none⟩), .pointer (some ⟨y + 6, 0, none⟩)], .string x, undef, undef, undef, undef, undef, undef, undef, undef, undef, undef, undef, undef, undef, undef, undef]) (BA (linesL src)[k]), []⟩) ?_ ?_ ?_
 · intro r
   have hEa := ((Ext.refl W2).alloc (.deferred (some []))).alloc (.loop r)
   show Iv w.heap.size y outs S w (min 0 ws.length) _
   rw [Nat.zero_min]
   refine ⟨.slice none 0 0, T, hEa.blk z1, ⟨by omega, ⟨_, .inl rfl, hEa.blk z2⟩, World.ownsRow_nil _ _ _ _, fun e => by cases e⟩, hEa.blk z3, ?_, hT0, fun q e => (by cases e), (hE1.trans hE17).trans hEa, by simp [World.size_alloc]; omega⟩
   exact hDk.keep _ _ _ _ _ (hDk.narrow _ _ (Ov y (.slice none 0 0)) _ _ hS0 (fun q hq h => h.elim (fun h => ⟨h.1, by omega⟩) (fun h => by cases h))) (hEa.keep _)
 · intro k W l o h1 h2 hI
   exact iv_keep hDk (by omega) (by omega) l (by omega) (by omega) hI (keep_put W l o)
 · intro k W v hI
   exact iv_keep hDk (by omega) (by omega) (y + 4) (by omega) (by omega) hI (kS1 W (y + 4) 0 v)
 · intro l k hk W K hK
   gi_wp2
 · intro k hk a' W hI hax hB0
   rw [hax hk]
   dsimp only
   clear hax
   have e7 : W2.heap.size = y + 7 := HS.out
   by_cases hkw : k < ws.length
   rotate_left
   · have hm0 : min k ws.length = ws.length := by omega
     have hm1 : min (k + 1) ws.length = ws.length := by omega
     rw [hm0] at hI
     rw [hm1]
     obtain ⟨b1, b2⟩ := hbl k hk (by omega)
     obtain ⟨x, hx⟩ : ∃ x, (linesL src)[k] = x := ⟨_, rfl⟩
     rw [hx] at b1 b2 ⊢
     have HW := As.mk (wordsC (fun q => q < W.heap.size) (BA x) (by show x.length ≤ _; omega) W (by rw [show (BA x).data.toList = x from rfl, b1]; intro y hy; cases hy) (by rw [show (BA x).data.toList = x from rfl, b1]; simp))
     have hD := hDk
     gi_wp2_with (refine ⟨trivial, ?_⟩; gi_at_call 45; refine (CallsIn.inRound _ (callsIn_wide.2 HW.out)).mono ?_; rintro e W3 ⟨vw, rfl, hownw, hE3⟩; rw [show (BA x).data.toList = x from rfl, b1] at hownw; obtain ⟨Aw, cw, rfl, hslw⟩ := hownw.shut (fun k q => q); simp only [List.map_nil, List.length_nil])
     obtain ⟨v, T, a1, a2, a3, a4, a5, a6, a7, a8⟩ := hI
     have hx0 : ∀ q, q ≤ y + 8 → W3.heap[q]? = W.heap[q]? := fun q hq => hE3.block (by omega)
     refine ⟨⟨v, T, hE3.blk a1, bat_keep a2 (hE3.keep (fun _ => False)) (fun q => q) (fun _ _ q => q), hE3.blk a3, hDk.keep _ _ _ _ _ a4 (hE3.keep _), a5, a6, a7.trans hE3, Nat.le_trans a8 hE3.size⟩, ?_, ?_, hx0 _ (by omega), hx0 _ (by omega), hx0 _ (by omega)⟩
     · exact hx0 _ (by omega)
     · exact hx0 _ (by omega)
   have hm0 : min k ws.length = k := by omega
   have hm1 : min (k + 1) ws.length = k + 1 := by omega
   rw [hm0] at hI
   rw [hm1]
   obtain ⟨v, T, a1, a2, a3, a4, a5, a6, a7, a8⟩ := hI
   obtain ⟨x, hx⟩ : ∃ x, (linesL src)[k] = x := ⟨_, rfl⟩
   obtain ⟨w1', w2', w3', w4', w5'⟩ := hw k hk hkw
   rw [hx] at w1' w2' w5'
   rw [hx]
   have hOl : ∀ q, Ov y v q → q < W.heap.size := fun q h => h.elim (fun h => by omega) (fun h => (a2.2.2.1.lt q h).2)
   have hT := hDk.own _ _ _ _ a4
   have hFl : ∀ q, (Ov y v q ∨ T q) → q < W.heap.size := fun q h => h.elim (hOl q) (fun h => (hT q h).1)
   have HW := As.mk (wordsC (fun q => Ov y v q ∨ T q) (BA x) (by show x.length ≤ _; omega) W w2' (by rw [← List.length_map (f := BA), w1']; omega))
   (have p0 := bC (a1) 0; have pf0 := bF (a1) 0)
   (have r0 := bC (a3) 0; have rf0 := bF (a3) 0)
   have A3 := a3
   have A1 := a1
   clear a1 a3
   gi_wp2_with (refine ⟨trivial, ?_⟩; gi_at_call 45; refine (CallsIn.inRound _ (callsIn_wide.2 HW.out)).mono ?_; rintro e W3 ⟨vw, rfl, hownw, hE3⟩; obtain ⟨Aw, cw, rfl, hslw⟩ := hownw.shut hFl; rw [w1'] at hslw; have P3 := hE3.cell p0; have R3 := hE3.cell r0)
   have hko : k < outs.length := by omega
   have hS3 := hDk.keep _ _ _ _ _ a4 (hE3.keep _)
   have hTO : ∀ q, T q → ¬ Ov y v q := fun q h => (hT q h).2
   have hl3 := hDk.line k hkw hko (Ov y v) T W3 Aw cw hS3 (fun q h => Nat.lt_of_lt_of_le (hOl q h) hE3.size) hslw
   have hny : ∀ q, y < q → q ≤ y + 8 → ¬ T q := fun q h1 h2 h => hTO q h (.inl ⟨h1, h2⟩)
   have b3 := bat_keep a2 (hE3.keep (fun _ => False)) (fun q => q) (fun _ _ q => q)
   obtain ⟨o, ho⟩ : ∃ o, outs[k] = o := ⟨_, rfl⟩
   have hout4 : (toldL (outs.take k)).length + (o.length + 1) ≤ 1000000000 := by
     have e : toldL outs = toldL (outs.take k) ++ ((o ++ [10]) ++ toldL (outs.drop (k + 1))) := by
       have e0 : outs = outs.take k ++ outs[k] :: outs.drop (k + 1) := by rw [← List.drop_eq_getElem_cons hko, List.take_append_drop]
       refine (congrArg toldL e0).trans ?_
       rw [← ho]
       simp only [toldL, List.map_append, List.map_cons, List.flatten_append, List.flatten_cons]
     have := HOUT.out
     rw [e] at this
     simp only [List.length_append, List.length_cons, List.length_nil] at this
     omega
   have htk : toldL (outs.take (k + 1)) = toldL (outs.take k) ++ (o ++ [10]) := by
     rw [List.take_add_one, List.getElem?_eq_getElem hko, ho]; simp [toldL]
   rw [ho] at hl3
   refine ⟨trivial, ?_⟩
   refine (CallsIn.inRound _ (callsIn_wide.2 hl3)).mono ?_; rintro e W4 ⟨rfl, T', hS4, K4, hT4⟩
   have b4 := bat_keep b3 K4 (hny _ (by omega) (by omega)) (fun q hq h => hTO q h (.inr hq))
   have P4 := K4.cell (a := ⟨y + 1, 0, none⟩) (hny (y + 1) (by omega) (by omega)) P3
   have R4 := K4.cell (a := ⟨y + 3, 0, none⟩) (hny (y + 3) (by omega) (by omega)) R3
   have hw4 : w.heap.size ≤ W4.heap.size := by have := a7.size; have := hE3.size; have := K4.size; omega
   have HWR := As.mk (writeC w.heap.size (y + 2) v (toldL (outs.take k)) (BA o ++ ⟨#[10]⟩) W4 b4 (by show _ + (BA o ++ ⟨#[10]⟩ : ByteArray).size ≤ _; rw [ByteArray.size_append]; show _ + (o.length + 1) ≤ _; omega) hw4)
   clear hl3
   gi_wp2_with (refine ⟨trivial, ?_⟩; gi_at_call 46; refine (CallsIn.inRound _ (callsIn_wide.2 HWR.out)).mono ?_; rintro e W5 ⟨⟨rr, rfl⟩, v5, hB5, hv5, K5⟩; have n5 : ¬ (y + 3 = y + 2 ∨ v.ownBlock = some (y + 3)) := (fun h => h.elim (fun h => by omega) (fun h => by have := a6 _ h; omega)); have hb5 := K5.blk n5 (K4.blk (hny (y + 3) (by omega) (by omega)) (hE3.blk A3)); (have u0 := bC (hb5) 0; have uf0 := bF (hb5) 0))
   have K6 := kS1 W5 (y + 3) 0 (.int .i64 ((k : Int) + 1))
   have z34 := hE3.size
   have z45 := K4.size
   have z56 := K5.size
   have hsame : ∀ q, q < W.heap.size → ¬ T q → ¬ (q = y + 2 ∨ v.ownBlock = some q) → ¬ q = y + 3 → (W5.setCell ⟨y + 3, 0, none⟩ (.int .i64 ((k : Int) + 1))).heap[q]? = W.heap[q]? := fun q h1 h2 h3 h4 =>
     (K6.block q (by omega) h4).trans ((K5.block q (by omega) h3).trans ((K4.block q (by omega) h2).trans (hE3.block h1)))
   have hvq : ∀ q, q ≤ y + 8 → ¬ v.ownBlock = some q := fun q h e => by have := a6 q e; omega
   have hfix : ∀ q, y + 3 < q → q ≤ y + 8 → (W5.setCell ⟨y + 3, 0, none⟩ (.int .i64 ((k : Int) + 1))).heap[q]? = W.heap[q]? := fun q h1 h2 =>
     hsame q (by omega) (hny q (by omega) h2) (fun h => h.elim (fun h => by omega) (hvq q h2)) (by omega)
   refine ⟨⟨v5, T', ?_, ?_, ?_, ?_, ?_, ?_, ?_, ?_⟩, ?_, ?_, hfix _ (by omega) (by omega), hfix _ (by omega) (by omega), hfix _ (by omega) (by omega)⟩
   · rw [hsame (y + 1) (by omega) (hny _ (by omega) (by omega)) (fun h => h.elim (fun h => by omega) (hvq _ (by omega))) (by omega)]; exact A1
   · have hb6 := bat_keep hB5 K6 (by omega) (fun q hq e => by
       rcases hv5 q hq with h | h
       · exact hvq q (by omega) h
       · omega)
     rw [htk]
     have e8 : (BA o ++ ⟨#[10]⟩ : ByteArray).data.toList = o ++ [10] := by simp
     rw [e8] at hb6
     exact hb6
   · have := bS hb5 0 (.int .i64 ((k : Int) + 1))
     exact this
   · have s1 := hDk.narrow _ _ (fun q => Ov y v q ∨ W4.heap.size ≤ q) _ _ hS4 (fun q hq h => h.elim id (fun h => by omega))
     have s2 := hDk.keep _ _ _ _ _ s1 (K5.mono (fun q _ h => .inl (h.elim (fun h => .inl ⟨by omega, by omega⟩) .inr)))
     have s3 := hDk.keep _ _ _ _ _ s2 (K6.mono (fun q _ h => .inl (.inl ⟨by omega, by omega⟩)))
     exact hDk.narrow _ _ (Ov y v5) _ _ s3 (fun q hq h => h.elim (fun h => .inl (.inl h)) (fun h => (hv5 q h).elim (fun h => .inl (.inr h)) .inr))
   · intro q h
     rcases hT4 q h with h | h
     · exact a5 q h
     · have := a7.size; omega
   · intro q h
     rcases hv5 q h with h | h
     · exact a6 q h
     · omega
   · exact (((a7.trans hE3).keepNew K4 a5).keepNew K5 (fun q h => h.elim (fun h => by omega) (fun h => by have := a6 q h; omega))).keepNew K6 (fun q h => by omega)
   · have := K6.size; omega
   · rw [e7]; exact hfix _ (by omega) (by omega)
   · rw [e7]; exact hfix _ (by omega) (by omega)
 · intro W hI hKd
   rw [show min (linesL src).length ws.length = outs.length by omega] at hI
   obtain ⟨v, T, a1, a2, a3, a4, a5, a6, a7, a8⟩ := hI
   rw [List.take_length] at a2
   have HST := As.mk (stringC w.heap.size (y + 2) v (toldL outs) W a2 a7.size)
   clear a1 a3
   gi_wp2_with (refine ⟨trivial, ?_⟩; gi_at_call 48; refine (callsIn_wide.2 HST.out).mono ?_; rintro e W5 ⟨rfl, hBl, hdf⟩)
   have e7 : W2.heap.size = y + 7 := HS.out
   have hK5 := hdf _ _ hKd
   rw [e7] at hK5
   refine ⟨by simp, .inl ⟨_, _, rfl, run_takeDeferred hK5, ?_⟩⟩
   have hE5 : Ext w W5 := Below.trans a7 hBl
   exact ⟨_, results_tmp rfl _ _ _, rfl, hE5.keepNew (keep_put W5 (y + 7) _) (fun q h => by omega)⟩
end K112
end Go.Proofs.YtbjeejimedhniaaGreatDoor
