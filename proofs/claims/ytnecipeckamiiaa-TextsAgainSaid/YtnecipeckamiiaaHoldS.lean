/-
  Rows of bytes and texts in memory: what a walk over texts wants beside Hold.
-/
import Derived.Test.YtnecipeckamiiaaHold
namespace Go.Proofs.Ytnecipeckamiiaa.HoldS
open Go.RowKit Go.Proofs.YtnecipeckamiiaaW.PrintWords Go.Proofs.YtnecipeckamiiaaW.PrintLast Go.Proofs.YtnecipeckamiiaaW.PrintMore Go.Proofs.Ytnecipeckamiiaa.Bits Go.Proofs.Ytnecipeckamiiaa.Hold
set_option linter.unusedVariables false
section
variable {P : Program} {ops : Array Oper} {o : Oper} {a : Act} {rest : List Oper} {Q : Exit → Act → World → Prop}
/-- append(v, y...), y a text; behind 'at_builtin'. -/
theorem appendStr {w0 W : World} (hgd : o.guard = none) (s x : Operand) (t u e : TypeId)
    (ho : o.op = .call { callee := .builtin .append, args := #[s, x], argTypes := #[t, u] })
    (ht : P.underlying t = some (.slice e)) (hu : P.underlying u = some .string) (hinfo : (P.info? e).map (fun i => (i.zero, i.size, i.bytes)) = some (some (.int .u8 0), 1, 1))
    (v : Value) (xs : List Int) (y : ByteArray) (hs : a.eval s = v) (hx : a.eval x = .string y)
    (HO : Kd.R (Kd.int .u8) e W w0.heap.size (fun _ => True) v xs) (HB : Below w0.heap.size w0 W) (hl : xs.length + y.size ≤ 140737488355328)
    (h : ∀ v1 w1, Kd.R (Kd.int .u8) e w1 w0.heap.size (fun _ => True) v1 (xs ++ bytesOf y) → Below w0.heap.size w0 w1 → wpList P ops Q rest (a.put o.dst v1) w1) :
    wpList P ops Q (o :: rest) a W :=
  print_append_str (w0 := w0) w0.heap.size hgd s x t u e ho ht hu hinfo v xs y hs hx (Kd.own_of_R HO) HB HB.size hl (fun v1 w1 hr hb _ => h v1 w1 (Kd.R_of_own hr (fun _ _ => trivial)) hb)
/-- The same two, where a region draws its order. -/
theorem appendStr_step {K : Act → World → Prop} {w0 W : World} (hw : Region.wanted o (yielded ops a.tmps) = true) (s x : Operand) (t u e : TypeId)
    (ho : o.op = .call { callee := .builtin .append, args := #[s, x], argTypes := #[t, u] })
    (ht : P.underlying t = some (.slice e)) (hu : P.underlying u = some .string) (hinfo : (P.info? e).map (fun i => (i.zero, i.size, i.bytes)) = some (some (.int .u8 0), 1, 1))
    (v : Value) (xs : List Int) (y : ByteArray) (hs : a.eval s = v) (hx : a.eval x = .string y)
    (HO : Kd.R (Kd.int .u8) e W w0.heap.size (fun _ => True) v xs) (HB : Below w0.heap.size w0 W) (hl : xs.length + y.size ≤ 140737488355328)
    (h : ∀ v1 w1, Kd.R (Kd.int .u8) e w1 w0.heap.size (fun _ => True) v1 (xs ++ bytesOf y) → Below w0.heap.size w0 w1 → K (a.put o.dst v1) w1) :
    if Region.wanted o (yielded ops a.tmps) = true then Oper.wp P o a W K Q else K (a.put o.dst undef) W := by
  rw [if_pos hw]
  obtain ⟨i0, hi, hzz⟩ := Option.map_eq_some_iff.1 hinfo
  simp only [Prod.mk.injEq] at hzz
  obtain ⟨hz0, hz1, hz2⟩ := hzz
  have HO' := Kd.own_of_R HO
  obtain ⟨v1, w1, hr, hown, hg, _⟩ := Lib.run_append_own_string (P := P) W w0.heap.size t u o.type e i0 ht hu hi hz0 hz1 hz2 v xs.length (nums .u8 xs) HO' y (by simp only [maxLen]; omega) hl HB.size
  unfold Oper.wp execOp
  simp only [ho, resolve, invoke, builtin, Sem.run_bind, Sem.run_pure, Result.andThen_ok, List.map_toArray, List.map_cons, List.map_nil, hs, hx, hr]
  have hl2 : (xs ++ bytesOf y).length = xs.length + y.size := by rw [List.length_append, bytesOf_length]
  have hc : nums .u8 (xs ++ bytesOf y) = nums .u8 xs ++ Lib.strCells y := by
    rw [nums_append]
    congr 1
    simp [nums, bytesOf, Lib.strCells]
  exact h v1 w1 (Kd.R_of_own (enc := Value.int .u8) (by rw [hl2]; show w1.ownsRow _ _ _ _ _ (nums .u8 (xs ++ bytesOf y)); rw [hc]; exact hown) (fun _ _ => trivial)) (HB.grown hg HB.size (own_base HO'))
theorem appendRow_step {K : Act → World → Prop} {k : IntKind} {w0 W : World} (hw : Region.wanted o (yielded ops a.tmps) = true) (s x : Operand) (t e : TypeId) (bytes : Nat)
    (ho : o.op = .call { callee := .builtin .append, args := #[s, x], argTypes := #[t, t] })
    (ht : P.underlying t = some (.slice e)) (hinfo : (P.info? e).map (fun i => (i.zero, i.size, i.bytes)) = some (some (.int k 0), 1, bytes)) (hb0 : 0 < bytes)
    (v : Value) (xs ys : List Int) (A : Option Addr) (m c : Nat) (hs : a.eval s = v) (hx : a.eval x = .slice A m c)
    (HO : Kd.R (Kd.int k) e W w0.heap.size (fun _ => True) v xs) (HR : Kd.C (Kd.int k) W A m ys) (HB : Below w0.heap.size w0 W) (hl : (xs.length + m) * bytes ≤ 140737488355328)
    (h : ∀ v1 w1, Kd.R (Kd.int k) e w1 w0.heap.size (fun _ => True) v1 (xs ++ ys) → Below w0.heap.size w0 w1 → K (a.put o.dst v1) w1) :
    if Region.wanted o (yielded ops a.tmps) = true then Oper.wp P o a W K Q else K (a.put o.dst undef) W :=
  Kd.R_append_rows_step (Kd.int k) (w0 := w0) w0.heap.size hw s x t e (.int k 0) bytes ho ht hinfo rfl Nat.one_pos hb0 v xs ys A m c (fun _ => True) (fun _ => False) hs hx HO HR
    (fun _ _ h => h) (fun _ h => h.elim) (fun _ _ => trivial) HB HB.size hl (fun v1 w1 hr hb _ _ => h v1 w1 hr hb)
/-- A nil row is one of the call's own. -/
theorem R_nil {k : IntKind} (e base : Nat) (w : World) : Kd.R (Kd.int k) e w base (fun _ => True) (.slice none 0 0) [] :=
  Kd.R_of_own (enc := Value.int k) (xs := []) ⟨rfl, .inl ⟨rfl, rfl⟩⟩ (fun _ h => trivial)
end
end Go.Proofs.Ytnecipeckamiiaa.HoldS
