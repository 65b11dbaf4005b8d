/- Acts as values. -/
import Derived.Test.YtdbepelcgmnbbaaDoorOps
import Derived.Test.YtdbepelcgmnbbaaDoorPure
namespace Go.Proofs.YtdbepelcgmnbbaaDoor
open Go Go.RowKit

/-- The value of an act. -/
def actVal (a : PG.G.Act) (pv : Value) : Value := .agg #[.int .i64 a.kind, .int .i32 a.rune, .bool a.mark, pv]
/-- Its params, as a slice. -/
def ParamsAt (w : World) (pv : Value) (ps : List Int) (ob : Option Nat) : Prop := SlAt w 3 1 pv ps.length (ps.map (Value.int .i64)) ob

theorem ParamsAt.form {w : World} {pv : Value} {ps : List Int} {ob : Option Nat} (h : ParamsAt w pv ps ob) : ∃ a c, pv = .slice a ps.length c := by
  obtain ⟨a, c, e, _⟩ := SlAt.form h
  exact ⟨a, c, e⟩
theorem ParamsAt.cell {w : World} {pv : Value} {ps : List Int} {ob : Option Nat} (h : ParamsAt w pv ps ob) {n : Nat} (hn : n < ps.length) :
    ∃ b o c, pv = .slice (some ⟨b, o, none⟩) ps.length c ∧ ob = some b ∧ w.cell? ⟨b, o + n, none⟩ = some (.int .i64 ps[n]) ∧ b < w.heap.size := by
  obtain ⟨b, o, c, cur, rfl, rfl, hB, _⟩ := SlAt.some_ h (SlAt.ob_ h (by omega))
  exact ⟨b, o, c, rfl, rfl, SlAt.cells h n _ (by rw [List.getElem?_map, List.getElem?_eq_getElem hn]; rfl), hB.lt⟩

theorem Step.alloc_left {F F1 : Nat → Prop} {w w1 : World} {o : Obj} (h : Step F F1 (w.alloc o) w1) : Step F F1 w w1 :=
  ⟨h.os, h.tape, h.output, Nat.le_trans (by simp) h.size, fun k hk hn => (h.block k (by simp; omega) hn).trans (Below.heap_alloc w o k hk), fun b hb => by rcases h.sub b hb with h' | h' <;> first | exact .inl h' | (right; simp at h'; omega)⟩

end Go.Proofs.YtdbepelcgmnbbaaDoor
