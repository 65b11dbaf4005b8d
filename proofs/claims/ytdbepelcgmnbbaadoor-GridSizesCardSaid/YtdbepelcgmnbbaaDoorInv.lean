/- What holds of every grid: shapes, places, what a cell may be; kept by each function. Plain Lean. -/
import Derived.Test.YtdbepelcgmnbbaaDoorPure
namespace Go.Proofs.YtdbepelcgmnbbaaDoor.PG

def StyleOk (c : Cell) : Prop := (0 ≤ c.fg ∧ c.fg ≤ 8) ∧ (0 ≤ c.bg ∧ c.bg ≤ 8) ∧ (0 ≤ c.style ∧ c.style ≤ 7)
def RuneOk (r : Int) : Prop := 32 ≤ r ∧ r ≠ 127 ∧ r ≤ 2147483647
def CellOk (c : Cell) : Prop := RuneOk c.rune ∧ StyleOk c
def LineOk (cols : Nat) (l : Line) : Prop := l.length = cols ∧ ∀ c ∈ l, CellOk c
def SheetOk (rows cols : Nat) (L : List Line) : Prop := L.length = rows ∧ ∀ l ∈ L, LineOk cols l
def PastOk (L : List Line) : Prop := L.length ≤ 200 ∧ ∀ l ∈ L, (1 ≤ l.length ∧ l.length ≤ 120) ∧ ∀ c ∈ l, CellOk c

structure G.Inv (g : G) : Prop where
  r1 : 1 ≤ g.rows
  r2 : g.rows ≤ 60
  c1 : 1 ≤ g.cols
  c2 : g.cols ≤ 120
  cells : SheetOk g.rows g.cols g.cells
  row : g.at_.row < g.rows
  col : g.at_.col < g.cols
  style : StyleOk g.at_.style
  srow : g.saved.row < 60
  scol : g.saved.col < 120
  sstyle : StyleOk g.saved.style
  top : g.top ≤ g.bottom
  bottom : g.bottom < g.rows
  tabs : g.tabs.length = g.cols
  other : ∀ o, g.other = some o → SheetOk g.rows g.cols o
  arow : g.away.row < g.rows
  acol : g.away.col < g.cols
  astyle : StyleOk g.away.style
  past : PastOk g.past

theorem blank_ok : CellOk blank := by unfold CellOk RuneOk StyleOk blank; simp
theorem zero_ok : StyleOk zeroCell := by unfold StyleOk zeroCell; simp
theorem line_ok (n : Nat) : LineOk n (line n) := ⟨by simp [line], fun c h => by rw [List.eq_of_mem_replicate h]; exact blank_ok⟩
theorem sheet_ok (r c : Nat) : SheetOk r c (sheet r c) := ⟨by simp [sheet], fun l h => by rw [List.eq_of_mem_replicate h]; exact line_ok c⟩

theorem SheetOk.set {r c : Nat} {L : List Line} {l : Line} (h : SheetOk r c L) (i : Nat) (hl : LineOk c l) : SheetOk r c (L.set i l) :=
  ⟨by rw [List.length_set]; exact h.1, fun x hx => by rcases List.mem_or_eq_of_mem_set hx with h' | h'; exact h.2 x h'; rw [h']; exact hl⟩
theorem SheetOk.get {r c : Nat} {L : List Line} (h : SheetOk r c L) {i : Nat} (hi : i < r) : LineOk c (L.getD i []) := by
  have : i < L.length := by rw [h.1]; exact hi
  rw [List.getD_eq_getElem?_getD, List.getElem?_eq_getElem this]
  exact h.2 _ (List.getElem_mem this)

theorem line_of {c : Nat} {l : Line} (h1 : l.length = c) (h2 : ∀ x ∈ l, CellOk x) : LineOk c l := ⟨h1, h2⟩

theorem takeRows_ok {r c row bottom n : Nat} {L : List Line} (h : SheetOk r c L) (h1 : row ≤ bottom) (h2 : bottom < r) : SheetOk r c (takeRows L c row bottom n) := by
  unfold takeRows
  refine ⟨?_, fun l hl => ?_⟩
  · simp [sheet, h.1]; omega
  · simp only [List.mem_append] at hl
    rcases hl with ((hl | hl) | hl) | hl
    · exact h.2 l (List.mem_of_mem_take hl)
    · exact h.2 l (List.mem_of_mem_take (List.mem_of_mem_drop (List.mem_of_mem_drop hl)))
    · exact (sheet_ok _ c).2 l hl
    · exact h.2 l (List.mem_of_mem_drop hl)

theorem putRows_ok {r c row bottom n : Nat} {L : List Line} (h : SheetOk r c L) (h1 : row ≤ bottom) (h2 : bottom < r) : SheetOk r c (putRows L c row bottom n) := by
  unfold putRows
  refine ⟨?_, fun l hl => ?_⟩
  · simp [sheet, h.1]; omega
  · simp only [List.mem_append] at hl
    rcases hl with ((hl | hl) | hl) | hl
    · exact h.2 l (List.mem_of_mem_take hl)
    · exact (sheet_ok _ c).2 l hl
    · exact h.2 l (List.mem_of_mem_take (List.mem_of_mem_drop (List.mem_of_mem_take hl)))
    · exact h.2 l (List.mem_of_mem_drop hl)

theorem keep1_ok {p : List Line} {l : Line} (h : PastOk p) (hl : (1 ≤ l.length ∧ l.length ≤ 120) ∧ ∀ c ∈ l, CellOk c) : PastOk (keep1 p l) := by
  unfold keep1
  refine ⟨by rw [List.length_drop]; omega, fun x hx => ?_⟩
  have := List.mem_of_mem_drop hx
  rcases List.mem_append.1 this with h' | h'
  · exact h.2 x h'
  · simp at h'; rw [h']; exact hl
theorem keepAll_ok {ls : List Line} : ∀ {p : List Line}, PastOk p → (∀ l ∈ ls, (1 ≤ l.length ∧ l.length ≤ 120) ∧ ∀ c ∈ l, CellOk c) → PastOk (keepAll p ls) := by
  induction ls with
  | nil => intro p h _; rw [keepAll, List.foldl_nil]; exact h
  | cons l r ih => intro p h hl; rw [keepAll, List.foldl_cons]; exact ih (keep1_ok h (hl l (by simp))) (fun x hx => hl x (by simp [hx]))

namespace G
section
variable {g : G}

theorem Inv.move (h : g.Inv) (row col : Int) : (g.move row col).Inv :=
  { h with
    row := by have := h.r1; show (min (max row 0) ((g.rows : Int) - 1)).toNat < g.rows; omega
    col := by have := h.c1; show (min (max col 0) ((g.cols : Int) - 1)).toNat < g.cols; omega }

theorem Inv.withCells (h : g.Inv) {L : List Line} (hL : SheetOk g.rows g.cols L) : Inv { g with cells := L } := { h with cells := hL }
theorem Inv.take (h : g.Inv) {row : Nat} (n : Nat) (hr : row ≤ g.bottom) : (g.take row n).Inv := h.withCells (takeRows_ok h.cells hr h.bottom)
theorem Inv.put (h : g.Inv) {row : Nat} (n : Nat) (hr : row ≤ g.bottom) : (g.put row n).Inv := h.withCells (putRows_ok h.cells hr h.bottom)

theorem Inv.line_past (h : g.Inv) {l : Line} (hl : l ∈ g.cells) : (1 ≤ l.length ∧ l.length ≤ 120) ∧ ∀ c ∈ l, CellOk c := by
  have := h.cells.2 l hl
  have := h.c1
  have := h.c2
  obtain ⟨h1, h2⟩ := h.cells.2 l hl
  exact ⟨by omega, h2⟩

theorem Inv.up (h : g.Inv) (n : Nat) : (g.up n).Inv := by
  have key : ∀ g' : G, g'.Inv → g'.top = g.top → g'.bottom = g.bottom → (g'.take g'.top (min n (g.bottom - g.top + 1))).Inv := fun g' h' e1 e2 => h'.take _ h'.top
  unfold G.up
  simp only
  split
  · exact key { g with past := keepAll g.past (g.cells.take (min n (g.bottom - g.top + 1))) } { h with past := keepAll_ok h.past fun l hl => h.line_past (List.mem_of_mem_take hl) } rfl rfl
  · exact key g h rfl rfl
theorem Inv.down (h : g.Inv) (n : Nat) : (g.down n).Inv := h.put n h.top

theorem Inv.withDue (h : g.Inv) (b : Bool) : Inv { g with at_ := { g.at_ with due := b } } := { h with }

theorem Inv.index (h : g.Inv) : g.index.Inv := by
  have h0 := h.withDue false
  unfold G.index
  simp only
  split
  · exact h0.up 1
  · split
    · rename_i h1 h2
      exact { h0 with row := by have := h.row; have h2' : g.at_.row < g.rows - 1 := h2; show g.at_.row + 1 < g.rows; omega }
    · exact h0

theorem shiftRight_ok {c col : Nat} {l : Line} (h : LineOk c l) (hc : col < c) : LineOk c (shiftRight l col) := by
  unfold shiftRight
  refine ⟨by have := h.1; simp; omega, fun x hx => ?_⟩
  rcases List.mem_append.1 hx with h' | h'
  · exact h.2 x (List.mem_of_mem_take h')
  · exact h.2 x (List.mem_of_mem_drop (List.mem_of_mem_take h'))

theorem Inv.wrapped (h : g.Inv) : g.wrapped.Inv := by
  unfold G.wrapped
  split
  · exact Inv.index { h with col := by have := h.c1; show 0 < g.cols; omega }
  · exact h
theorem Inv.inserted (h : g.Inv) : g.inserted.Inv := by
  unfold G.inserted
  split
  · exact h.withCells (h.cells.set _ (shiftRight_ok (h.cells.get h.row) h.col))
  · exact h
theorem Inv.setCell (h : g.Inv) {row : Nat} (col : Nat) (hr : row < g.rows) {c : Cell} (hc : CellOk c) : (g.setCell row col c).Inv := by
  refine h.withCells (h.cells.set _ ?_)
  have := h.cells.get hr
  refine ⟨by rw [List.length_set]; exact this.1, fun x hx => ?_⟩
  rcases List.mem_or_eq_of_mem_set hx with h' | h'
  · exact this.2 x h'
  · rw [h']; exact hc
theorem Inv.print (h : g.Inv) {r : Int} (hr : RuneOk r) : (g.print r).Inv := by
  have h1 := h.wrapped.inserted
  unfold G.print
  simp only
  generalize g.wrapped.inserted = k at h1
  have h2 : (k.setCell k.at_.row k.at_.col (k.cell r)).Inv := h1.setCell _ h1.row ⟨hr, h1.style⟩
  have e : (k.setCell k.at_.row k.at_.col (k.cell r)).at_ = k.at_ := rfl
  split
  · exact h2.withDue _
  · rename_i hne
    exact { h2 with col := by have := h2.col; have : (k.setCell k.at_.row k.at_.col (k.cell r)).cols = k.cols := rfl; show k.at_.col + 1 < k.cols; have := h1.col; simp only [e] at hne; omega }

theorem Inv.control (h : g.Inv) (r : Int) : (g.control r).Inv := by
  unfold G.control
  split; exact h.move _ _
  split; exact h.move _ _
  split; exact h.index
  split; exact h.move _ _
  exact h

theorem stops_len (n : Nat) : (stops n).length = n := by simp [stops]
theorem fresh_inv {rows cols : Nat} {p : List Line} (h1 : 1 ≤ rows) (h2 : rows ≤ 60) (h3 : 1 ≤ cols) (h4 : cols ≤ 120) (hp : PastOk p) : (fresh rows cols p).Inv :=
  { r1 := h1, r2 := h2, c1 := h3, c2 := h4, cells := sheet_ok _ _, row := by show 0 < rows; omega, col := by show 0 < cols; omega, style := zero_ok, srow := by show 0 < 60; omega, scol := by show 0 < 120; omega, sstyle := zero_ok,
    top := Nat.zero_le _, bottom := by show rows - 1 < rows; omega, tabs := stops_len _, other := fun o h => (by cases h), arow := by show 0 < rows; omega, acol := by show 0 < cols; omega, astyle := zero_ok, past := hp }

theorem Inv.esc (h : g.Inv) (r : Int) : (g.esc r).Inv := by
  unfold G.esc
  split; exact h.index
  split; exact Inv.index { h with col := by have := h.c1; show 0 < g.cols; omega }
  split
  · simp only
    split
    · exact (h.withDue false).down 1
    · exact (h.withDue false).move _ _
  split
  · exact { h with srow := by have := h.row; have := h.r2; show g.at_.row < 60; omega, scol := by have := h.col; have := h.c2; show g.at_.col < 120; omega, sstyle := h.style }
  split
  · simp only
    refine Inv.withDue ?_ _
    exact { h with
      row := by have := h.r1; show (min (max (g.saved.row : Int) 0) ((g.rows : Int) - 1)).toNat < g.rows; omega
      col := by have := h.c1; show (min (max (g.saved.col : Int) 0) ((g.cols : Int) - 1)).toNat < g.cols; omega
      style := h.sstyle }
  split; exact fresh_inv h.r1 h.r2 h.c1 h.c2 h.past
  split; exact { h with tabs := by show (g.tabs.set _ _).length = g.cols; rw [List.length_set]; exact h.tabs }
  exact h

theorem Inv.alternate (h : g.Inv) (on : Bool) : (g.alternate on).Inv := by
  unfold G.alternate
  split
  · exact { h with cells := sheet_ok _ _, other := fun o e => (by cases e; exact h.cells), arow := h.row, acol := h.col, astyle := h.style }
  · rename_i o ho
    exact { h with cells := h.other o ho, row := h.arow, col := h.acol, style := h.astyle, other := fun o e => (by cases e), arow := by have := h.r1; show 0 < g.rows; omega, acol := by have := h.c1; show 0 < g.cols; omega, astyle := zero_ok }
  · exact h

theorem Inv.mode (h : g.Inv) (on : Bool) (n : Int) : (mode on g n).Inv := by
  unfold G.mode
  split; exact { h with }
  split; exact { h with }
  split; exact h.alternate on
  exact h
theorem Inv.foldl {α : Type} {f : G → α → G} (hf : ∀ g a, Inv g → Inv (f g a)) : ∀ (l : List α) {g : G}, Inv g → Inv (l.foldl f g) := by
  intro l
  induction l with
  | nil => intro g h; exact h
  | cons a r ih => intro g h; exact ih (hf g a h)
theorem Inv.modes (h : g.Inv) (r : Int) (ps : List Int) : (g.modes r ps).Inv := by
  unfold G.modes
  split
  · exact Inv.foldl (fun g a h => h.mode _ a) ps h
  · exact h

theorem styled_ok {s : Cell} (h : StyleOk s) (k : Int) : StyleOk (styled s k) := by
  obtain ⟨h1, h2, h3⟩ := h
  have hor : ∀ b : Nat, b ≤ 7 → 0 ≤ orBits s.style b ∧ orBits s.style b ≤ 7 := by
    intro b hb
    unfold orBits
    have : s.style.toNat ||| (b : Int).toNat < 2 ^ 3 := Nat.or_lt_two_pow (by omega) (by omega)
    omega
  have hand : ∀ b : Int, 0 ≤ andNotBits s.style b ∧ andNotBits s.style b ≤ 7 := by
    intro b
    unfold andNotBits
    have : s.style.toNat &&& (7 - b.toNat) ≤ s.style.toNat := Nat.and_le_left
    omega
  unfold styled
  split; exact zero_ok
  split; exact ⟨h1, h2, hor 1 (by omega)⟩
  split; exact ⟨h1, h2, hor 2 (by omega)⟩
  split; exact ⟨h1, h2, hor 4 (by omega)⟩
  split; exact ⟨h1, h2, hand 1⟩
  split; exact ⟨h1, h2, hand 2⟩
  split; exact ⟨h1, h2, hand 4⟩
  split; exact ⟨by show 0 ≤ k - 29 ∧ k - 29 ≤ 8; omega, h2, h3⟩
  split; exact ⟨by show (0:Int) ≤ 0 ∧ (0:Int) ≤ 8; omega, h2, h3⟩
  split; exact ⟨h1, by show 0 ≤ k - 39 ∧ k - 39 ≤ 8; omega, h3⟩
  split; exact ⟨h1, by show (0:Int) ≤ 0 ∧ (0:Int) ≤ 8; omega, h3⟩
  exact ⟨h1, h2, h3⟩
theorem Inv.styled (h : g.Inv) (k : Int) : (g.style k).Inv := { h with style := styled_ok h.style k }

theorem wipeLine_ok {c fr to : Nat} {l : Line} (h : LineOk c l) (h1 : fr ≤ to) (h2 : to ≤ c) : LineOk c (wipeLine l fr to) := by
  unfold wipeLine
  refine ⟨by have := h.1; simp [line]; omega, fun x hx => ?_⟩
  simp only [List.mem_append] at hx
  rcases hx with (h' | h') | h'
  · exact h.2 x (List.mem_of_mem_take h')
  · exact (line_ok _).2 x h'
  · exact h.2 x (List.mem_of_mem_drop h')
theorem Inv.wipe (h : g.Inv) {row fr to : Nat} (hr : row < g.rows) (h1 : fr ≤ to) (h2 : to ≤ g.cols) : (g.wipe row fr to).Inv := h.withCells (h.cells.set _ (wipeLine_ok (h.cells.get hr) h1 h2))
theorem Inv.eraseLine (h : g.Inv) (p : Int) : (g.eraseLine p).Inv := by
  have := h.col
  unfold G.eraseLine
  split; exact h.wipe h.row (by omega) (Nat.le_refl _)
  split; exact h.wipe h.row (by omega) (by omega)
  split; exact h.wipe h.row (by omega) (Nat.le_refl _)
  exact h
theorem eraseRow_same (p : Int) (g : G) (row : Nat) : (eraseRow p g row).rows = g.rows ∧ (eraseRow p g row).cols = g.cols ∧ (eraseRow p g row).at_ = g.at_ := by
  unfold eraseRow; split <;> exact ⟨rfl, rfl, rfl⟩
theorem Inv.eraseRow (h : g.Inv) (p : Int) {row : Nat} (hr : row < g.rows) : (eraseRow p g row).Inv := by
  unfold G.eraseRow
  split
  · exact h.wipe hr (by omega) (Nat.le_refl _)
  · exact h
theorem Inv.eraseRows (p : Int) : ∀ (l : List Nat) {g : G}, g.Inv → (∀ r ∈ l, r < g.rows) → (l.foldl (G.eraseRow p) g).Inv := by
  intro l
  induction l with
  | nil => intro g h _; exact h
  | cons a r ih => intro g h hl; exact ih (h.eraseRow p (hl a (by simp))) (fun x hx => by rw [(eraseRow_same p g a).1]; exact hl x (by simp [hx]))
theorem eraseLine_rows (g : G) (p : Int) : (g.eraseLine p).rows = g.rows ∧ (g.eraseLine p).cols = g.cols ∧ (g.eraseLine p).at_ = g.at_ := by
  unfold G.eraseLine
  split; exact ⟨rfl, rfl, rfl⟩
  split; exact ⟨rfl, rfl, rfl⟩
  split; exact ⟨rfl, rfl, rfl⟩
  exact ⟨rfl, rfl, rfl⟩
theorem Inv.withPast (h : g.Inv) {p : List Line} (hp : PastOk p) : Inv { g with past := p } := { h with past := hp }
theorem nil_past : PastOk [] := ⟨by simp, fun l h => by cases h⟩
theorem Inv.erase (h : g.Inv) (p : Int) : (g.erase p).Inv := by
  unfold G.erase
  simp only
  have h0 : Inv (if p = 3 then { g with past := [] } else g) := by split; exact h.withPast nil_past; exact h
  have e0 : (if p = 3 then ({ g with past := [] } : G) else g).rows = g.rows := by split <;> rfl
  generalize (if p = 3 then ({ g with past := [] } : G) else g) = k at h0 e0
  split
  · exact h0
  · exact Inv.eraseRows p _ (h0.eraseLine p) (fun r hr => by rw [(eraseLine_rows k p).1]; simpa using hr)

theorem cutLine_ok {c col n : Nat} {l : Line} (what : Int) (h : LineOk c l) (hc : col < c) : LineOk c (cutLine what l col n) := by
  unfold cutLine
  simp only
  refine ⟨?_, fun x hx => ?_⟩
  · have := h.1
    split <;> (try split) <;> simp [line] <;> omega
  · rcases List.mem_append.1 hx with h' | h'
    · exact h.2 x (List.mem_of_mem_take h')
    · split at h'
      · rcases List.mem_append.1 h' with h' | h'
        · exact (line_ok _).2 x h'
        · exact h.2 x (List.mem_of_mem_drop (List.mem_of_mem_take h'))
      · split at h'
        · rcases List.mem_append.1 h' with h' | h'
          · exact h.2 x (List.mem_of_mem_drop (List.mem_of_mem_drop h'))
          · exact (line_ok _).2 x h'
        · rcases List.mem_append.1 h' with h' | h'
          · exact (line_ok _).2 x h'
          · exact h.2 x (List.mem_of_mem_drop (List.mem_of_mem_drop h'))
theorem Inv.cut (h : g.Inv) (what : Int) (n : Nat) : (g.cut what n).Inv := h.withCells (h.cells.set _ (cutLine_ok what (h.cells.get h.row) h.col))

theorem Inv.withTabs (h : g.Inv) {t : List Bool} (ht : t.length = g.cols) : Inv { g with tabs := t } := { h with tabs := ht }
theorem param_nonneg {ps : List Int} (hps : ∀ x ∈ ps, 0 ≤ x) (i : Nat) {o : Int} (ho : 0 < o) : 0 < param ps i o := by
  unfold param
  split
  · exact ho
  · rename_i hne
    rw [List.getD_eq_getElem?_getD] at *
    cases he : ps[i]? with
    | none => rw [he] at hne; simp at hne
    | some x =>
      rw [he] at hne
      simp at hne ⊢
      have := hps x (List.mem_of_getElem? he)
      omega
theorem Inv.edit (h : g.Inv) (r : Int) {ps : List Int} (hps : ∀ x ∈ ps, 0 ≤ x) (n : Int) : (g.edit r ps n).Inv := by
  unfold G.edit
  simp only
  split; exact h.erase _
  split; exact h.eraseLine _
  split
  · split; exact h
    rename_i hr
    split
    · exact (h.put _ (by omega)).move _ _
    · exact (h.take _ (by omega)).move _ _
  split; exact h.cut _ _
  split; exact h.up _
  split; exact h.down _
  split
  · split
    · rename_i htb
      have h1 := h.r1
      have h2 := param_nonneg hps 0 (o := 1) (by omega)
      refine Inv.move ?_ 0 0
      exact { h with
        top := by show (param ps 0 1 - 1).toNat ≤ (min (param ps 1 (g.rows : Int) - 1) ((g.rows : Int) - 1)).toNat; omega
        bottom := by show (min (param ps 1 (g.rows : Int) - 1) ((g.rows : Int) - 1)).toNat < g.rows; omega }
    · exact h
  split
  · have h0 : Inv (if param ps 0 0 = 0 then { g with tabs := g.tabs.set g.at_.col false } else g) := by
      split
      · exact h.withTabs (by rw [List.length_set]; exact h.tabs)
      · exact h
    generalize (if param ps 0 0 = 0 then ({ g with tabs := g.tabs.set g.at_.col false } : G) else g) = k at h0
    split
    · exact h0.withTabs (by simp)
    · exact h0
  exact h
theorem Inv.csi (h : g.Inv) (r : Int) {ps : List Int} (hps : ∀ x ∈ ps, 0 ≤ x) : (g.csi r ps).Inv := by
  unfold G.csi
  simp only
  split; exact h.move _ _
  split; exact h.move _ _
  split; exact h.move _ _
  split; exact h.move _ _
  split; exact h.move _ _
  split; exact h.move _ _
  split; exact h.move _ _
  split; exact Inv.foldl (fun g a h => h.styled a) ps h
  split
  · split
    · exact { h with }
    · exact h
  exact h.edit r hps _
theorem Inv.act (h : g.Inv) (a : Act) (hp : a.kind = 1 → RuneOk a.rune) (hps : ∀ x ∈ a.params, 0 ≤ x) : (g.act a).Inv := by
  unfold G.act
  split
  · rename_i hk; exact h.print (hp hk)
  split; exact h.control _
  split; exact h.esc _
  split
  · split
    · exact h.modes _ _
    · exact h.csi _ hps
  exact h
end
end G
end Go.Proofs.YtdbepelcgmnbbaaDoor.PG
