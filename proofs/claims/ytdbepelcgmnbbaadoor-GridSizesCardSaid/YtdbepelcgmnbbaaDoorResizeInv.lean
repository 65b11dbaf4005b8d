/- A screen of another size is one. Plain Lean. -/
import Derived.Test.YtdbepelcgmnbbaaDoorInv
namespace Go.Proofs.YtdbepelcgmnbbaaDoor.PG

theorem fitLine_length (cols : Nat) (l : Line) : (G.fitLine cols l).length = cols := by
  unfold G.fitLine line
  simp
  omega
theorem fitLine_cells {cols : Nat} {l : Line} (h : ∀ c ∈ l, CellOk c) : ∀ c ∈ G.fitLine cols l, CellOk c := by
  intro c hc
  unfold G.fitLine at hc
  rcases List.mem_append.1 hc with hc | hc
  · exact h c (List.mem_of_mem_take hc)
  · exact (line_ok _).2 c hc
theorem fit_ok {L : List Line} (h : ∀ l ∈ L, ∀ c ∈ l, CellOk c) (row rows cols : Nat) : SheetOk rows cols (G.fit L row rows cols) := by
  unfold G.fit
  simp only
  refine ⟨by simp [sheet]; omega, fun l hl => ?_⟩
  rcases List.mem_append.1 hl with hl | hl
  · obtain ⟨x, hx, rfl⟩ := List.mem_map.1 hl
    exact ⟨fitLine_length cols x, fitLine_cells (h x (List.mem_of_mem_drop (List.mem_of_mem_take hx)))⟩
  · exact (sheet_ok _ cols).2 l hl
theorem resizeTabs_len (tabs : List Bool) (cols : Nat) : (G.resizeTabs tabs cols).length = cols := by
  unfold G.resizeTabs
  simp
  omega
theorem lost_past {L : List Line} {cols : Nat} (h3 : 1 ≤ cols) (h4 : cols ≤ 120) (h : ∀ l ∈ L, ∀ c ∈ l, CellOk c) (n : Nat) : ∀ l ∈ (L.take n).map (G.fitLine cols), (1 ≤ l.length ∧ l.length ≤ 120) ∧ ∀ c ∈ l, CellOk c := by
  intro l hl
  obtain ⟨x, hx, rfl⟩ := List.mem_map.1 hl
  exact ⟨by rw [fitLine_length]; omega, fitLine_cells (h x (List.mem_of_mem_take hx))⟩
theorem G.Inv.resize {g : G} (h : g.Inv) {rows cols : Nat} (h1 : 1 ≤ rows) (h2 : rows ≤ 60) (h3 : 1 ≤ cols) (h4 : cols ≤ 120) : (g.resize rows cols).Inv := by
  unfold G.resize
  simp only
  have hc : ∀ l ∈ g.cells, ∀ c ∈ l, CellOk c := fun l hl => (h.cells.2 l hl).2
  split
  · rename_i ho
    exact { r1 := h1, r2 := h2, c1 := h3, c2 := h4, cells := fit_ok hc _ _ _, row := by show min _ (rows - 1) < rows; omega, col := by show min _ (cols - 1) < cols; omega, style := h.style, srow := h.srow, scol := h.scol, sstyle := h.sstyle,
            top := Nat.zero_le _, bottom := by show rows - 1 < rows; omega, tabs := resizeTabs_len _ _, other := fun o e => (by rw [show g.other = some o from e] at ho; cases ho), arow := by show min _ (rows - 1) < rows; omega, acol := by show min _ (cols - 1) < cols; omega,
            astyle := h.astyle, past := keepAll_ok h.past (lost_past h3 h4 hc _) }
  · rename_i o ho
    have hoc : ∀ l ∈ o, ∀ c ∈ l, CellOk c := fun l hl => ((h.other o ho).2 l hl).2
    exact { r1 := h1, r2 := h2, c1 := h3, c2 := h4, cells := fit_ok hc _ _ _, row := by show min _ (rows - 1) < rows; omega, col := by show min _ (cols - 1) < cols; omega, style := h.style, srow := h.srow, scol := h.scol, sstyle := h.sstyle,
            top := Nat.zero_le _, bottom := by show rows - 1 < rows; omega, tabs := resizeTabs_len _ _, other := fun o' e => (by have e' : some (G.fit o g.away.row rows cols) = some o' := e; cases e'; exact fit_ok hoc _ _ _), arow := by show min _ (rows - 1) < rows; omega, acol := by show min _ (cols - 1) < cols; omega,
            astyle := h.astyle, past := keepAll_ok h.past (lost_past h3 h4 hoc _) }
end Go.Proofs.YtdbepelcgmnbbaaDoor.PG
