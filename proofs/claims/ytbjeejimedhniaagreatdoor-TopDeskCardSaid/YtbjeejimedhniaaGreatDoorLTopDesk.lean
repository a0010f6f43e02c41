/- A script tells what a store tells, word by word. -/
import Derived.Test.YtbjeejimedhniaaGreatDoorRows
import Derived.Test.YtbjeejimedhniaaGreatDoorCards
import Derived.Test.YtbjeejimedhniaaGreatDoorTie
import Derived.Test.YtbjeejimedhniaaGreatDoorD30
import Derived.Test.YtbjeejimedhniaaGreatDoorLFTopDesk
import Derived.WalkKit
import Derived.ProofKit
import Derived.OpenShut
import Derived.ShutString
import Derived.ChangeOld
import Derived.Below
import Derived.SizedLaws
import Derived.LaidMore
import Derived.Lay
import Derived.SevenTiedAt
import Derived.Stop.Joined
import Derived.Deep.Slices
import Derived.Lib.LaidTab
namespace Go.Proofs.YtbjeejimedhniaaGreatDoor.topDesk
open Go.ChangeShapes Go.WideShapes Go.ChangeAt Go.RowKit
open Go.Proofs.YtbjeejimedhniaaGreatDoor.KB Go.Proofs.YtbjeejimedhniaaGreatDoor.K2 Go.Proofs.YtbjeejimedhniaaGreatDoor.K113 Go.Proofs.YtbjeejimedhniaaGreatDoor.K115 Go.Proofs.YtbjeejimedhniaaGreatDoor.K128
open Go
set_option linter.unusedVariables false
set_option maxRecDepth 100000
theorem own : ownKnob Tryz.prog.godebug = none := by kernel_rfl
theorem laidOut : laidOutB Tryz.prog = true := topDeskF.k2
theorem c37 : Tryz.prog.cellsOf 37 = 2 := by kernel_rfl
theorem c2 : Tryz.prog.cellsOf 2 = 1 := by kernel_rfl
theorem wf64 {n : Int} (h : (Lit.int .i64 n).wf = true) : I64 n := by simpa [I64, Lit.wf, IntKind.min, IntKind.max, IntKind.signed, IntKind.bits] using h
theorem pr_open {H : Type} {enc : TypeId × Value → H} {W : World} {a : Option Addr} {len cap fuel : Nat} {x : DataW H × List MemPlace}
    (h : DataW.trod enc Tryz.prog W 0 (fun _ => true) true fuel 22 [.slice a len cap] = some x) :
    ∃ l : List (Int × Int), len = l.length ∧ rdPr.Sl (fun _ => False) W a cap l ∧ ∀ x ∈ l, I64 x.1 ∧ I64 x.2 := by
  rcases Go.Deep.open_slice Tryz.underlying22 h with ⟨hc, _⟩ | ⟨b, len', cap', m, n, D, Pl, hc, hb, hl, hm, hmm, _, hx⟩
  · simp at hc
    obtain ⟨rfl, rfl, rfl⟩ := hc
    exact ⟨[], rfl, ⟨Nat.le_refl _, Nat.zero_le _, fun _ => rfl, fun k x hk => by simp at hk⟩, fun x hx => by cases hx⟩
  · simp at hc
    obtain ⟨ea, el, ec⟩ := hc
    simp at hmm
    subst hmm
    subst el ec
    have each : ∀ i, i < cap → ∃ q : Int × Int, W.cell? (b.add (i * 2)) = some (.int .i64 q.1) ∧ W.cell? (b.add (i * 2 + 1)) = some (.int .i64 q.2) ∧ I64 q.1 ∧ I64 q.2 := by
      intro i hi
      obtain ⟨cs', h1, h2⟩ := hx i hi
      have h1 : W.cells? 0 (b.add (i * 2)) 2 = some cs' := c37 ▸ h1
      obtain ⟨_, hlen, hcell⟩ := World.cells?_some h1
      obtain ⟨xs, k, hk, hxy, _, hxl, hf⟩ := DataW.trod_array Tryz.underlying37 h2
      match xs, hxl, cs', hlen with
      | [y0, y1], _, [v0, v1], _ =>
        have g0 := hf 0 (by decide)
        have g1 := hf 1 (by decide)
        simp [c2] at g0 g1
        obtain ⟨n0, e0, _, w0⟩ := DataW.trod_int Tryz.underlying2 g0
        obtain ⟨n1, e1, _, w1⟩ := DataW.trod_int Tryz.underlying2 g1
        simp at e0 e1
        subst e0 e1
        have f0 := hcell 0 (by omega)
        have f1 := hcell 1 (by omega)
        rw [Go.Deep.add_add] at f0 f1
        exact ⟨(n0, n1), by simpa using f0, by simpa using f1, wf64 w0, wf64 w1⟩
    obtain ⟨q, hq⟩ := Go.Deep.choose_lt each
    refine ⟨(List.range len).map q, by simp, ⟨by simpa using hl, hm, (fun e => by rw [ea] at e; cases e), fun k x hk => ?_⟩, fun x hx => ?_⟩
    · rw [List.getElem?_map] at hk
      obtain ⟨i, hi, rfl⟩ := Option.map_eq_some_iff.1 hk
      have hk2 : k < len := by have := (List.getElem?_eq_some_iff.1 hi).1; simpa using this
      obtain rfl : k = i := by rw [List.getElem?_range hk2] at hi; exact Option.some.inj hi
      obtain ⟨h0, h1, _, _⟩ := hq k (by omega)
      obtain ⟨bb, bo, bs⟩ := b
      have hspot : bs = none := by
        obtain ⟨z0, _⟩ := hq 0 (by omega)
        simpa [Addr.add] using World.cell?_spot z0
      subst hspot
      rw [add_plain] at h0 h1
      refine ⟨bb, bo, ea, fun e => e, [.int .i64 (q k).1, .int .i64 (q k).2], rfl, fun j u hj => ?_⟩
      match j, hj with
      | 0, hj => cases hj; exact h0
      | 1, hj => cases hj; exact h1
      | j + 2, hj => simp at hj
    · obtain ⟨i, hi, rfl⟩ := List.mem_map.1 hx
      have := List.mem_range.1 hi
      exact ⟨(hq i (by omega)).2.2.1, (hq i (by omega)).2.2.2⟩
theorem tab_of {W : World} (h : laidMetH Tryz.prog Rows.topDeskRow.laid W) : Tab W := by
  rw [MakeChecks.laidMetH_plain _ _ _ (by kernel_rfl)] at h
  obtain ⟨ps, ⟨g1, t1, c1, f1, p1, q1, _, _, _, _, ⟨g2, t2, c2, f2, p2, q2, _, _, _, _, ⟨g3, t3, c3, f3, p3, q3, hg, hty, hvar, hd, _, _⟩, _⟩, _⟩, _, _⟩ := h
  obtain rfl := Option.some.inj ((show Tryz.prog.globalNamed "internal/strconv.uint64pow10" = some 3 by kernel_rfl).symm.trans hg)
  obtain rfl := Option.some.inj ((show (Tryz.prog.globals[3]?).map (·.type) = some 427 by kernel_rfl).symm.trans hty)
  have e := Lib.cells_of_tab (k := .u64) (zs := Lib.pow10Tab) Tryz.underlying427 Tryz.underlying115 (by kernel_rfl) (by kernel_rfl) (show _ = some (Lib.tabData .u64 Lib.pow10Tab, p3) from hd)
  unfold Tab Lib.TabIs
  rw [hvar, ← e]
set_option maxRecDepth 100000 in
theorem lifted (os : Os) (started : os.Started) (H : Type) (enc : TypeId × Value → H) :
    ReturnsInHanded {} Tryz.checked os 5 .any (fun w args => (Rows.topDeskSpec.pre enc Tryz.prog Tryz.f5 Rows.topDeskRow.domain false w args ∧ laidMetH Tryz.prog Rows.topDeskRow.laid w) ∧ sizedMet enc Tryz.prog Tryz.f5 (OpenSpec.ofChange Rows.topDeskSpec) false w args)
      (Rows.topDeskSpec.post enc Tryz.prog Tryz.f5 false true false false) := by
  refine returnsInHanded_of_change_and (C := Tryz.checked) (X := fun w _ => laidMetH Tryz.prog Rows.topDeskRow.laid w) (fun _ _ _ hh h => h.of_heap hh) own started (by kernel_rfl) Tryz.func5
    (ChangeSpec.witness_shaped (enc := enc) (C := Tryz.checked) (os := os) (X := fun w _ => laidMetH Tryz.prog Rows.topDeskRow.laid w) false (World.laidAll Tryz.prog os Rows.topDeskRow.laid) #[.slice none 0 0, .int .u8 0, .int .u16 0] 8 (World.laidAll_os _ _ _)
      (World.shaped_of_ZipB (by kernel_rfl) (by kernel_rfl)) (by kernel_rfl) (by kernel_rfl) (by kernel_rfl)
      (by rw [MakeChecks.laidMetH_plain _ _ _ (by kernel_rfl)]; exact laidMet_laidAll _ (by kernel_rfl) (by kernel_rfl))) ?_
  intro W base args ds gs before hval0 hW _ _ hLaid _
  have htab := tab_of hLaid
  have hval : ∀ (j : Nat) t v, Tryz.f5.params[j]? = some t → args[j]? = some v → Value.okWide Tryz.prog W .any base t v := hval0
  have hW' := hW
  obtain ⟨p, q, hA0, hV, rfl, hfz, hnd⟩ := hW
  have hA : DataW.TrodAll enc Tryz.prog W 0 (fun _ => true) true Tryz.f5.params.toList args.toList ds p := hA0
  rw [Tryz.params5] at hA hval
  obtain ⟨v0, vs0, d0, ds0, p0, q0, hargs, rfl, rfl, h0, r0⟩ := trodAll_cons hA
  obtain ⟨v1, vs1, d1, ds1, p1, q1, rfl, rfl, rfl, h1, r1⟩ := trodAll_cons r0
  obtain ⟨v2, vs2, d2, ds2, p2, q2, rfl, rfl, rfl, h2, r2⟩ := trodAll_cons r1
  obtain ⟨rfl, rfl, rfl⟩ := trodAll_nil r2
  obtain rfl : args = #[v0, v1, v2] := by cases args; simp_all
  obtain ⟨rfl, rfl⟩ := trodVars_none hV
  obtain ⟨a0, len0, cap0, rfl⟩ := okWide_slice Tryz.underlying22 (hval 0 22 v0 rfl rfl)
  have k0 := h0
  have lt0 : ∀ x ∈ p0, x.block < W.heap.size := by obtain ⟨m, hm⟩ := k0; exact DataW.trod_lt m _ _ _ hm
  obtain ⟨l0, rfl, hr0, hw0⟩ : ∃ l : List (Int × Int), len0 = l.length ∧ rdPr.Sl (fun _ => False) W a0 cap0 l ∧ ∀ x ∈ l, I64 x.1 ∧ I64 x.2 := by
    obtain ⟨fuel, hf⟩ := h0
    exact pr_open hf
  obtain ⟨a1, rfl, rfl, rfl, w1⟩ := open_int Tryz.underlying5 (hval 1 5 v1 rfl rfl) h1
  have b1 : 0 ≤ a1 ∧ a1 ≤ 255 := by simpa [Lit.wf, IntKind.min, IntKind.max, IntKind.signed, IntKind.bits] using w1
  obtain ⟨a2, rfl, rfl, rfl, w2⟩ := open_int Tryz.underlying61 (hval 2 61 v2 rfl rfl) h2
  have b2 : 0 ≤ a2 ∧ a2 ≤ 65535 := by simpa [Lit.wf, IntKind.min, IntKind.max, IntKind.signed, IntKind.bits] using w2
  obtain ⟨n1, rfl⟩ : ∃ n : Nat, a1 = n := ⟨a1.toNat, by omega⟩
  obtain ⟨n2, rfl⟩ : ∃ n : Nat, a2 = n := ⟨a2.toNat, by omega⟩
  clear hA0 hval0
  refine (walk2 a0 cap0 l0 n1 n2 W hr0 hw0 (by omega) (by omega) htab).mono fun e W' ⟨he, bel⟩ => ?_
  subst he
  exact ⟨_, rfl, _, _, _, [], _, [], hW', trodAll_mk1 (shut_bool Tryz.underlying4 _), (trodAll_cons_mk (Below.trod laidOut (by kernel_rfl) (of_decide_eq_true (by kernel_rfl)) k0 bel lt0) (trodAll_cons_mk (shut_int Tryz.underlying5 w1) (trodAll_cons_mk (shut_int Tryz.underlying61 w2) trodAll_mk0))), rfl, bel.frame _, fun h => by cases h⟩
theorem over : Rows.topDeskRow.holds Tryz.pinned (OpenSpec.ofChange Rows.topDeskSpec) :=
  OpenClaim.holds_of_wide 5 Tryz.f5 rfl rfl rfl rfl rfl rfl rfl ⟨rfl, rfl, rfl, rfl, rfl⟩ rfl rfl rfl rfl rfl (by kernel_rfl) Tryz.func5 topDeskF.closed
    (of_decide_eq_true (by kernel_rfl)) (by unfold Func.isWrapper; first | (rw [if_pos (by decide +kernel)]; kernel_rfl) | (rw [if_neg (by decide +kernel)]; exact ⟨rfl, rfl⟩))
    (fun os started H enc _ => lifted os started H enc)
theorem proved : Rows.TopDeskSaid := over
theorem card : Rows.TopDeskCardSaid :=
  Claim7.holds_tied_plain_at .later [] [.data, .data, .data, .data, .sentinel, .sentinel, .pinned] true (true, "b8beb5667e2fc859e25c25adcc9cc0a4d7a81d06a103ce16388bfd4b44821532") true proved (fun _ h => by cases h) topDeskF.wft (fun _ h => by cases h) topDesk_row_tie rfl ⟨rfl, rfl⟩ topDeskF.main_is rfl
    (fun f fn hf hfn => by
      obtain rfl : f = 5 := Option.some.inj ((show Tryz.prog.funcNamed "thresher/threshertop.TopDesk" = some 5 by kernel_rfl).symm.trans hf) |>.symm
      obtain rfl : fn = Tryz.f5 := (Option.some.inj (Tryz.func5.symm.trans hfn)).symm
      exact ⟨topDeskF.looks, fun j t ht => by
        rw [Tryz.params5] at ht
        have hm : t ∈ [22, 5, 61] := by simpa using Array.mem_of_getElem? ht
        have hall : ([22, 5, 61].all fun u => !Tryz.prog.wantsStandIn u) = true := by kernel_rfl
        exact (show Tryz.prog.wantsStandIn t = false by simpa using List.all_eq_true.1 hall t hm)⟩)
    topDeskF.goes
#print axioms card
end Go.Proofs.YtbjeejimedhniaaGreatDoor.topDesk
namespace Go.Proofs.YtbjeejimedhniaaGreatDoor
theorem topDesk_holds : Rows.TopDeskCardSaid := topDesk.card
end Go.Proofs.YtbjeejimedhniaaGreatDoor
