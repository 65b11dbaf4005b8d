/- Rows of cells as values; what line, sheet, Clone and copied give. -/
import Derived.Test.YtdbepelcgmnbbaaDoorOps
import Derived.Test.YtdbepelcgmnbbaaDoorPure
import Derived.Test.YtdbepelcgmnbbaaDoorRows
import Derived.Laws.MakeOwn
import Derived.Deep.RegionLaw
namespace Go.Proofs.YtdbepelcgmnbbaaDoor
open Go Go.RowKit

def cellVals (c : PG.Cell) : List Value := [.int .i32 c.rune, .int .i64 c.fg, .int .i64 c.bg, .int .i64 c.style]
def flat (l : PG.Line) : List Value := l.flatMap cellVals

theorem length_flat (l : PG.Line) : (flat l).length = l.length * 4 := by
  induction l with
  | nil => rfl
  | cons c r ih => simp only [flat, List.flatMap_cons, List.length_append, List.length_cons] at *; rw [ih]; simp [cellVals]; omega
theorem flat_append (a b : PG.Line) : flat (a ++ b) = flat a ++ flat b := by simp [flat]
theorem flat_cons (c : PG.Cell) (l : PG.Line) : flat (c :: l) = cellVals c ++ flat l := by simp [flat]
theorem flat_take (l : PG.Line) : ∀ k, flat (l.take k) = (flat l).take (k * 4) := by
  induction l with
  | nil => intro k; simp [flat]
  | cons c r ih =>
    intro k
    cases k with
    | zero => simp [flat]
    | succ k =>
      rw [List.take_succ_cons, flat_cons, flat_cons, ih, show (k + 1) * 4 = (cellVals c).length + k * 4 by simp [cellVals]; omega, List.take_length_add_append]
theorem flat_drop (l : PG.Line) : ∀ k, flat (l.drop k) = (flat l).drop (k * 4) := by
  induction l with
  | nil => intro k; simp [flat]
  | cons c r ih =>
    intro k
    cases k with
    | zero => simp
    | succ k =>
      rw [List.drop_succ_cons, flat_cons, ih, show (k + 1) * 4 = (cellVals c).length + k * 4 by simp [cellVals]; omega, List.drop_length_add_append]
theorem flat_over (l : PG.Line) (k : Nat) (c : PG.Line) : over (flat l) (k * 4) (flat c) = flat (over l k c) := by
  unfold over
  rw [flat_append, flat_append, flat_take, flat_drop, length_flat, Nat.add_mul]
theorem flat_one (l : PG.Line) : ∀ u ∈ flat l, u.oneCell' = true := by
  intro u hu
  obtain ⟨c, _, hc⟩ := List.mem_flatMap.1 hu
  simp [cellVals] at hc
  rcases hc with rfl | rfl | rfl | rfl <;> rfl
theorem flat_get (l : PG.Line) : ∀ (i : Nat) (c : PG.Cell), l[i]? = some c → (flat l)[i * 4]? = some (.int .i32 c.rune) ∧ (flat l)[i * 4 + 1]? = some (.int .i64 c.fg) ∧ (flat l)[i * 4 + 2]? = some (.int .i64 c.bg) ∧ (flat l)[i * 4 + 3]? = some (.int .i64 c.style) := by
  induction l with
  | nil => intro i c h; simp at h
  | cons d r ih =>
    intro i c h
    cases i with
    | zero => simp at h; subst h; simp [flat_cons, cellVals]
    | succ i =>
      rw [List.getElem?_cons_succ] at h
      have := ih i c h
      rw [flat_cons]
      simp only [cellVals, List.cons_append, List.nil_append, show (i + 1) * 4 = i * 4 + 1 + 1 + 1 + 1 by omega, show i * 4 + 1 + 1 + 1 + 1 + 1 = i * 4 + 1 + 1 + 1 + 1 + 1 by omega, show i * 4 + 1 + 1 + 1 + 1 + 2 = i * 4 + 2 + 1 + 1 + 1 + 1 by omega, show i * 4 + 1 + 1 + 1 + 1 + 3 = i * 4 + 3 + 1 + 1 + 1 + 1 by omega, List.getElem?_cons_succ]
      exact this

theorem over_replicate {α : Type} (a z : α) (k r m : Nat) (h : m ≤ r) : over (List.replicate k a ++ List.replicate r z) k (List.replicate m a) = List.replicate (k + m) a ++ List.replicate (r - m) z := by
  unfold over
  rw [List.take_left' (by simp), List.length_replicate, List.drop_append, List.drop_of_length_le (by simp), List.length_replicate, List.drop_replicate, List.nil_append, show k + m - k = m by omega, ← List.append_assoc, List.replicate_append_replicate]

theorem madeCells_zero (n : Nat) : (madeCells #[.int .i32 0, .int .i64 0, .int .i64 0, .int .i64 0] (n * 4)).toList = flat (List.replicate n PG.zeroCell) := by
  apply List.ext_getElem?
  intro k
  by_cases h : k < n * 4
  · have hk : k = k / 4 * 4 + k % 4 := by omega
    have hq : (List.replicate n PG.zeroCell)[k / 4]? = some PG.zeroCell := by rw [List.getElem?_replicate, if_pos (by omega)]
    obtain ⟨g0, g1, g2, g3⟩ := flat_get _ _ _ hq
    have hr : k % 4 = 0 ∨ k % 4 = 1 ∨ k % 4 = 2 ∨ k % 4 = 3 := by omega
    have hl : (madeCells #[.int .i32 0, .int .i64 0, .int .i64 0, .int .i64 0] (n * 4)).toList[k]? = some (#[Value.int .i32 0, .int .i64 0, .int .i64 0, .int .i64 0][k % 4]!) := by
      simp [madeCells, h]
    rw [hl]
    rcases hr with e | e | e | e <;> rw [e] <;> (rw [e] at hk) <;> rw [hk] <;> (try simp only [Nat.add_zero]) <;> first | rw [g0] | rw [g1] | rw [g2] | rw [g3]
    all_goals rfl
  · rw [List.getElem?_eq_none (by simp [madeCells]; omega), List.getElem?_eq_none (by rw [length_flat]; simp; omega)]

theorem run_make_rowN {P : Program} (t e : TypeId) (i : TypeInfo) (z : Value) (ht : P.underlying t = some (.slice e)) (hi : P.info? e = some i) (hz : i.zero = some z)
    (kl kc : IntKind) (n c : Nat) (hnc : n ≤ c) (hbytes : i.bytes * c ≤ 281474976710656) (h63 : c ≤ 9223372036854775807) (w : World) :
    (Instr.makeSlice t (.int kl (n : Int)) (.int kc (c : Int))).run P w = .ok (.slice (some ⟨w.heap.size, 0, none⟩) n c) (w.alloc (.cells (madeCells z.cells (c * i.size)) e)) := by
  have hb : (i.bytes : Int) * (c : Int) ≤ 281474976710656 := by
    have h : ((i.bytes * c : Nat) : Int) ≤ 281474976710656 := by omega
    rwa [Int.natCast_mul] at h
  have hr := run_make (P := P) w t e i z ht hi hz kl kc n c (by omega) (by omega) hb (by omega)
  simp only [Int.toNat_natCast] at hr
  exact hr

theorem Tryd.infoCell : (Tryd.prog.info? 42).map (fun i => (i.zero, i.size, i.bytes)) = some (some (.agg #[.int .i32 0, .int .i64 0, .int .i64 0, .int .i64 0]), 4, 32) := by kernel_rfl
theorem Tryd.infoLine : (Tryd.prog.info? 40).map (fun i => (i.zero, i.size, i.bytes)) = some (some (.slice none 0 0), 1, 24) := by kernel_rfl

end Go.Proofs.YtdbepelcgmnbbaaDoor
