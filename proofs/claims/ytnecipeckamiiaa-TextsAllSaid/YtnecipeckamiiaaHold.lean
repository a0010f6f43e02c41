/-
  Small words for walks: a row of numbers that is read, cell by cell; a string made of it; cuts of it.
-/
import Derived.Test.YtnecipeckamiiaaWMore
import Derived.Test.YtnecipeckamiiaaWLast
import Derived.Test.YtnecipeckamiiaaBits
namespace Go.Proofs.Ytnecipeckamiiaa.Hold
open Go.RowKit Go.Proofs.YtnecipeckamiiaaW.PrintWords Go.Proofs.YtnecipeckamiiaaW.PrintLast Go.Proofs.YtnecipeckamiiaaW.PrintMore Go.Proofs.Ytnecipeckamiiaa.Bits

theorem C_cells {k : IntKind} {w : World} {A : Option Addr} {n : Nat} {xs : List Int} (h : Kd.C (Kd.int k) w A n xs) (hn : 0 < n) :
    ∃ ad, A = some ad ∧ ∀ j, j < n → w.cell? (ad.add j) = some (.int k (xs.getD j 0)) := by
  have hr := Kd.reads_of_C (enc := Value.int k) (d := (0 : Int)) (h1 := fun _ => rfl) h
  exact hr.2.2 hn
theorem C_take_any {k : IntKind} {w : World} {A : Option Addr} {xs : List Int} (m : Nat) (h : Kd.C (Kd.int k) w A xs.length xs) : Kd.C (Kd.int k) w A (xs.take m).length (xs.take m) := by
  by_cases hm : m ≤ xs.length
  · exact Kd.C_take h hm
  · rw [List.take_of_length_le (by omega)]; exact h
/-- A slice that was made, as one that is read. -/
theorem R_C {k : IntKind} {e : Nat} {w : World} {base : Nat} {ok : Nat → Prop} {v : Value} {xs : List Int} (h : Kd.R (Kd.int k) e w base ok v xs) :
    ∃ A c, v = .slice A xs.length c ∧ xs.length ≤ c ∧ Kd.C (Kd.int k) w A xs.length xs := Kd.R_reads h
/-- x[:j]. -/
theorem cutTo {P : Program} (t e : TypeId) {z : Value} {b : Nat} (ht : P.underlying t = some (.slice e)) (hi : (P.info? e).map (fun i => (i.zero, i.size, i.bytes)) = some (some z, 1, b)) (A : Option Addr) (n c : Nat) (j : Int) (h0 : 0 ≤ j) (hm : j ≤ n) (hc : n ≤ c) :
    ∀ W : World, (Instr.slice t (.slice A n c) none (some (.int .i64 j)) none).run P W = .ok (.slice A j.toNat c) W := by
  obtain ⟨i, hi, _⟩ := info_parts hi
  exact cut_to t e .i64 ht hi A n c j h0 hm hc
/-- x[j:]. -/
theorem cutFrom {P : Program} (t e : TypeId) {z : Value} {b : Nat} (ht : P.underlying t = some (.slice e)) (hi : (P.info? e).map (fun i => (i.zero, i.size, i.bytes)) = some (some z, 1, b)) (k : IntKind) (A : Option Addr) (c : Nat) (xs : List Int) (j : Int) (h0 : 0 ≤ j) (hm : j ≤ xs.length) (hc : xs.length ≤ c) :
    ∃ A', (∀ W : World, (Instr.slice t (.slice A xs.length c) (some (.int .i64 j)) none none).run P W = .ok (.slice A' (xs.drop j.toNat).length (c - j.toNat)) W) ∧
      (∀ w, Kd.C (Kd.int k) w A xs.length xs → Kd.C (Kd.int k) w A' (xs.drop j.toNat).length (xs.drop j.toNat)) ∧ (xs.drop j.toNat).length ≤ c - j.toNat := by
  obtain ⟨i, hi, _, hs, _⟩ := info_parts hi
  refine ⟨if c = j.toNat then A else A.map (·.add (j.toNat * 1)), ?_, fun w h => ?_, by rw [List.length_drop]; omega⟩
  · rw [List.length_drop]
    exact cut_from t e .i64 ht hi 1 hs A xs.length c j h0 hm
  · exact Kd.C_drop h (by omega) hc
/-- string(x), x bytes. -/
theorem toStr {P : Program} {w : World} {src dst e : TypeId} {A : Option Addr} {n : Nat} (c : Nat) {xs : List Int} (hs : P.underlying src = some (.slice e)) (he : P.underlying e = some (.int .u8)) (hd : P.underlying dst = some .string)
    (h : Kd.C (Kd.int .u8) w A n xs) : ∀ m, (convert src dst (.slice A n c)).run P (w.drewN m) = .ok (.string (strOfNums xs)) (w.drewN m) := fun m =>
  Kd.C_string hs he hd (Kd.C_drewN h m)
theorem toStr1 {P : Program} {w : World} {src dst e : TypeId} {A : Option Addr} {n : Nat} (c : Nat) {xs : List Int} (hs : P.underlying src = some (.slice e)) (he : P.underlying e = some (.int .u8)) (hd : P.underlying dst = some .string)
    (h : Kd.C (Kd.int .u8) w A n xs) : (convert src dst (.slice A n c)).run P w = .ok (.string (strOfNums xs)) w := Kd.C_string hs he hd h
theorem cells0 {k : IntKind} {w : World} {ad : Addr} {n : Nat} {xs : List Int} (h : ∀ j, j < n → w.cell? (ad.add j) = some (.int k (xs.getD j 0))) (hn : 0 < n) : w.cell? ad = some (.int k (xs.getD 0 0)) := by
  have := h 0 hn
  simpa [Addr.add] using this

theorem str_append (xs ys : List Int) : strOfNums (xs ++ ys) = strOfNums xs ++ strOfNums ys := by
  refine Go.WideShapes.bytes_inj ?_
  simp [strOfNums_data, ByteArray.data_append]
/-- The row of a literal of no elements is one of the call's own. -/
theorem R_empty {k : IntKind} (e : Nat) (w : World) : Kd.R (Kd.int k) e (w.alloc (.cells #[] e)) w.heap.size (fun _ => True) (.slice (some ⟨w.heap.size, 0, none⟩) 0 0) [] := by
  have h := own_lit w w.heap.size e k [] (Nat.le_refl _) (by simp)
  refine ⟨fun _ _ => trivial, [], h, ?_⟩
  exact ⟨by simp, fun j p hj => by simp at hj⟩
section
variable {P : Program} {ops : Array Oper} {o : Oper} {a : Act} {rest : List Oper} {Q : Exit → Act → World → Prop}
/-- append(v, ys...), v a row of the call's own, ys a row that is read; behind 'at_builtin'. -/
theorem appendRow {k : IntKind} {w0 W : World} (hgd : o.guard = none) (s x : Operand) (t e : TypeId) (bytes : Nat)
    (ho : o.op = .call { callee := .builtin .append, args := #[s, x], argTypes := #[t, t] })
    (ht : P.underlying t = some (.slice e)) (hinfo : (P.info? e).map (fun i => (i.zero, i.size, i.bytes)) = some (some (.int k 0), 1, bytes)) (hb0 : 0 < bytes)
    (v : Value) (xs ys : List Int) (A : Option Addr) (m c : Nat) (hs : a.eval s = v) (hx : a.eval x = .slice A m c)
    (HO : Kd.R (Kd.int k) e W w0.heap.size (fun _ => True) v xs) (HR : Kd.C (Kd.int k) W A m ys) (HB : Below w0.heap.size w0 W) (hl : (xs.length + m) * bytes ≤ 140737488355328)
    (h : ∀ v1 w1, Kd.R (Kd.int k) e w1 w0.heap.size (fun _ => True) v1 (xs ++ ys) → Below w0.heap.size w0 w1 → wpList P ops Q rest (a.put o.dst v1) w1) :
    wpList P ops Q (o :: rest) a W :=
  Kd.R_append_rows (Kd.int k) (w0 := w0) w0.heap.size hgd s x t e (.int k 0) bytes ho ht hinfo rfl Nat.one_pos hb0 v xs ys A m c (fun _ => True) (fun _ => False) hs hx HO HR
    (fun _ _ h => h) (fun _ h => h.elim) (fun _ _ => trivial) HB HB.size hl (fun v1 w1 hr hb _ _ => h v1 w1 hr hb)
/-- append(v, x), v a row of the call's own; behind 'at_builtin'. -/
theorem appendOne {k : IntKind} {w0 W : World} (hgd : o.guard = none) (s x : Operand) (t e : TypeId) (bytes : Nat)
    (ho : o.op = .call { callee := .builtin .append, args := #[s, x], argTypes := #[t, t] })
    (ht : P.underlying t = some (.slice e)) (hinfo : (P.info? e).map (fun i => (i.zero, i.size, i.bytes)) = some (some (.int k 0), 1, bytes)) (hb0 : 0 < bytes)
    (v : Value) (xs : List Int) (y : Int) (hs : a.eval s = v) (hx : a.eval x = .slice (some ⟨W.heap.size, 0, none⟩) 1 1)
    (HO : Kd.R (Kd.int k) e W w0.heap.size (fun _ => True) v xs) (HB : Below w0.heap.size w0 W) (hl : (xs.length + 1) * bytes ≤ 140737488355328)
    (h : ∀ v1 w1, Kd.R (Kd.int k) e w1 w0.heap.size (fun _ => True) v1 (xs ++ [y]) → Below w0.heap.size w0 w1 → wpList P ops Q rest (a.put o.dst v1) w1) :
    wpList P ops Q (o :: rest) a (W.alloc (.cells #[.int k y] e)) :=
  Kd.R_append (Kd.int k) (w0 := w0) w0.heap.size hgd s x t e (.int k 0) bytes ho ht hinfo rfl Nat.one_pos hb0 v xs y [.int k y] (fun _ => True) (fun _ => False) hs hx rfl
    (fun _ h => h.elim) (fun _ _ => trivial) HO HB HB.size hl (fun v1 w1 hr hb _ _ => h v1 w1 hr hb)
end

end Go.Proofs.Ytnecipeckamiiaa.Hold
