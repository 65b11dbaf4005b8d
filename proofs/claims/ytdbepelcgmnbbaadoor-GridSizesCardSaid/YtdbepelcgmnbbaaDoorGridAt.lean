/- A grid in memory: its cells, what it owns, and how it goes on where only its own numbers turn. -/
import Derived.Test.YtdbepelcgmnbbaaDoorClones
import Derived.Test.YtdbepelcgmnbbaaDoorInv
namespace Go.Proofs.YtdbepelcgmnbbaaDoor
open Go Go.RowKit

/-- The cells of a Grid. -/
def gcells (g : PG.G) (vc vt vo vp vq : Value) : Array Value := #[.int .i64 g.rows, .int .i64 g.cols, vc, .int .i64 g.at_.row, .int .i64 g.at_.col, .bool g.at_.due, .int .i32 g.at_.style.rune, .int .i64 g.at_.style.fg, .int .i64 g.at_.style.bg, .int .i64 g.at_.style.style, .int .i64 g.saved.row, .int .i64 g.saved.col, .bool g.saved.due, .int .i32 g.saved.style.rune, .int .i64 g.saved.style.fg, .int .i64 g.saved.style.bg, .int .i64 g.saved.style.style, .int .i64 g.top, .int .i64 g.bottom, .bool g.wrap, .bool g.insert, .bool g.hidden, vt, vo, .int .i64 g.away.row, .int .i64 g.away.col, .bool g.away.due, .int .i32 g.away.style.rune, .int .i64 g.away.style.fg, .int .i64 g.away.style.bg, .int .i64 g.away.style.style, vp, vq]

section
variable {w : World} {p : Nat} {g : PG.G} {vc vt vo vp vq : Value} (h : Blk w p 52 (gcells g vc vt vo vp vq))
include h
theorem gc_rows : w.cell? ⟨p, 0, none⟩ = some (.int .i64 g.rows) := h.cell 0
theorem gc_cols : w.cell? ⟨p, 1, none⟩ = some (.int .i64 g.cols) := h.cell 1
theorem gc_cells : w.cell? ⟨p, 2, none⟩ = some (vc) := h.cell 2
theorem gc_row : w.cell? ⟨p, 3, none⟩ = some (.int .i64 g.at_.row) := h.cell 3
theorem gc_col : w.cell? ⟨p, 4, none⟩ = some (.int .i64 g.at_.col) := h.cell 4
theorem gc_due : w.cell? ⟨p, 5, none⟩ = some (.bool g.at_.due) := h.cell 5
theorem gc_rune : w.cell? ⟨p, 6, none⟩ = some (.int .i32 g.at_.style.rune) := h.cell 6
theorem gc_fg : w.cell? ⟨p, 7, none⟩ = some (.int .i64 g.at_.style.fg) := h.cell 7
theorem gc_bg : w.cell? ⟨p, 8, none⟩ = some (.int .i64 g.at_.style.bg) := h.cell 8
theorem gc_sty : w.cell? ⟨p, 9, none⟩ = some (.int .i64 g.at_.style.style) := h.cell 9
theorem gc_srow : w.cell? ⟨p, 10, none⟩ = some (.int .i64 g.saved.row) := h.cell 10
theorem gc_scol : w.cell? ⟨p, 11, none⟩ = some (.int .i64 g.saved.col) := h.cell 11
theorem gc_sdue : w.cell? ⟨p, 12, none⟩ = some (.bool g.saved.due) := h.cell 12
theorem gc_srune : w.cell? ⟨p, 13, none⟩ = some (.int .i32 g.saved.style.rune) := h.cell 13
theorem gc_sfg : w.cell? ⟨p, 14, none⟩ = some (.int .i64 g.saved.style.fg) := h.cell 14
theorem gc_sbg : w.cell? ⟨p, 15, none⟩ = some (.int .i64 g.saved.style.bg) := h.cell 15
theorem gc_ssty : w.cell? ⟨p, 16, none⟩ = some (.int .i64 g.saved.style.style) := h.cell 16
theorem gc_top : w.cell? ⟨p, 17, none⟩ = some (.int .i64 g.top) := h.cell 17
theorem gc_bottom : w.cell? ⟨p, 18, none⟩ = some (.int .i64 g.bottom) := h.cell 18
theorem gc_wrap : w.cell? ⟨p, 19, none⟩ = some (.bool g.wrap) := h.cell 19
theorem gc_insert : w.cell? ⟨p, 20, none⟩ = some (.bool g.insert) := h.cell 20
theorem gc_hidden : w.cell? ⟨p, 21, none⟩ = some (.bool g.hidden) := h.cell 21
theorem gc_tabs : w.cell? ⟨p, 22, none⟩ = some (vt) := h.cell 22
theorem gc_other : w.cell? ⟨p, 23, none⟩ = some (vo) := h.cell 23
theorem gc_arow : w.cell? ⟨p, 24, none⟩ = some (.int .i64 g.away.row) := h.cell 24
theorem gc_acol : w.cell? ⟨p, 25, none⟩ = some (.int .i64 g.away.col) := h.cell 25
theorem gc_adue : w.cell? ⟨p, 26, none⟩ = some (.bool g.away.due) := h.cell 26
theorem gc_arune : w.cell? ⟨p, 27, none⟩ = some (.int .i32 g.away.style.rune) := h.cell 27
theorem gc_afg : w.cell? ⟨p, 28, none⟩ = some (.int .i64 g.away.style.fg) := h.cell 28
theorem gc_abg : w.cell? ⟨p, 29, none⟩ = some (.int .i64 g.away.style.bg) := h.cell 29
theorem gc_asty : w.cell? ⟨p, 30, none⟩ = some (.int .i64 g.away.style.style) := h.cell 30
theorem gc_past : w.cell? ⟨p, 31, none⟩ = some (vp) := h.cell 31
theorem gc_parser : w.cell? ⟨p, 32, none⟩ = some (vq) := h.cell 32
end

/-- W is w with block p turned, which now holds cs, and with new blocks. -/
def On (w W : World) (p : Nat) (t : TypeId) (cs : Array Value) : Prop := Blk W p t cs ∧ w.grownBy W (some p)
section
variable {w W : World} {p : Nat} {t : TypeId} {cs : Array Value}
theorem On.refl (h : Blk w p t cs) : On w w p t cs := ⟨h, rfl, rfl, rfl, Nat.le_refl _, fun _ _ _ => rfl⟩
theorem On.set (h : On w W p t cs) (i : Nat) (u : Value) : On w (W.setCell ⟨p, i, none⟩ u) p t (cs.setIfInBounds i u) :=
  ⟨h.1.set_ i u, h.2.os, h.2.tape, h.2.output, by have := h.2.size; simpa using this, fun k hk hn => (Below.heap_setCell W _ u k (by rintro rfl; exact hn rfl)).trans (h.2.block k hk hn)⟩
theorem On.drew (h : On w W p t cs) : On w W.drew p t cs := ⟨h.1, h.2.os, h.2.tape, h.2.output, h.2.size, h.2.block⟩
theorem On.drewN (h : On w W p t cs) (n : Nat) : On w (W.drewN n) p t cs := ⟨h.1, h.2.os, h.2.tape, h.2.output, h.2.size, h.2.block⟩
theorem On.alloc (h : On w W p t cs) (o : Obj) : On w (W.alloc o) p t cs :=
  ⟨h.1.alloc o, h.2.os, h.2.tape, h.2.output, by have := h.2.size; simp; omega, fun k hk hn => (Below.heap_alloc W o k (Nat.lt_of_lt_of_le hk h.2.size)).trans (h.2.block k hk hn)⟩
theorem On.eq_ {cs' : Array Value} (h : On w W p t cs) (e : cs = cs') : On w W p t cs' := e ▸ h
theorem on_ex {cs' : Array Value} (h : ∃ cs, On w W p t cs ∧ cs = cs') : On w W p t cs' := by obtain ⟨cs, h, rfl⟩ := h; exact h
theorem On.below {W' : World} (h : On w W p t cs) (hb : Below W.heap.size W W') : On w W' p t cs :=
  ⟨h.1.below hb h.1.lt, hb.os.trans h.2.os, hb.tape.trans h.2.tape, hb.output.trans h.2.output, Nat.le_trans h.2.size hb.size, fun k hk hn => (hb.block k (Nat.lt_of_lt_of_le hk h.2.size)).trans (h.2.block k hk hn)⟩
end

/-- The cells that were put away, if any. -/
def OtherAt (w : World) (v : Value) (o : Option (List PG.Line)) (ob : Option Nat) (rb : List Nat) : Prop :=
  match o with
  | none => v = .slice none 0 0 ∧ ob = none ∧ rb = []
  | some L => RowsAt w v L ob rb ∧ ob ≠ none

structure GridMem (w : World) (p : Nat) (g : PG.G) (vc vt vo vp vq : Value) (bc bt bo bp : Option Nat) (rc ro rp : List Nat) : Prop where
  blk : Blk w p 52 (gcells g vc vt vo vp vq)
  cells : RowsAt w vc g.cells bc rc
  tabs : SlAt w 4 1 vt g.tabs.length (g.tabs.map Value.bool) bt
  other : OtherAt w vo g.other bo ro
  past : RowsAt w vp g.past bp rp
  outs : (bc.toList ++ (bo.toList ++ bp.toList)).Nodup
  rws : (rc ++ (ro ++ rp)).Nodup

def footG (p : Nat) (bc bt bo bp : Option Nat) (rc ro rp : List Nat) (b : Nat) : Prop :=
  b = p ∨ bc = some b ∨ bt = some b ∨ bo = some b ∨ bp = some b ∨ b ∈ rc ∨ b ∈ ro ∨ b ∈ rp

/-- The grid g lies at block p, all that it owns in F; vq: its parser. -/
def GridAt (w : World) (p : Nat) (F : Nat → Prop) (g : PG.G) (vq : Value) : Prop :=
  g.Inv ∧ (∀ b, F b → b < w.heap.size) ∧ ∃ (vc vt vo vp : Value) (bc bt bo bp : Option Nat) (rc ro rp : List Nat), GridMem w p g vc vt vo vp vq bc bt bo bp rc ro rp ∧ ∀ b, footG p bc bt bo bp rc ro rp b → F b

/-- A method without results has left the grid as g. -/
def GPost (w : World) (p : Nat) (F : Nat → Prop) (g : PG.G) (vq : Value) (e : Ending) (w' : World) : Prop :=
  ∃ F', e = .returned (.tuple #[]) ∧ GridAt w' p F' g vq ∧ Step F F' w w'

theorem OtherAt.same {w w' : World} {v : Value} {o : Option (List PG.Line)} {ob : Option Nat} {rb : List Nat} (h : OtherAt w v o ob rb) (ho : ∀ b, ob = some b → w'.heap[b]? = w.heap[b]?) (hr : ∀ b ∈ rb, w'.heap[b]? = w.heap[b]?) : OtherAt w' v o ob rb := by
  unfold OtherAt at *
  cases o with
  | none => exact h
  | some L => exact ⟨h.1.same ho hr, h.2⟩
theorem OtherAt.lt {w : World} {v : Value} {o : Option (List PG.Line)} {ob : Option Nat} {rb : List Nat} (h : OtherAt w v o ob rb) : (∀ b, ob = some b → b < w.heap.size) ∧ ∀ b ∈ rb, b < w.heap.size := by
  unfold OtherAt at h
  cases o with
  | none => obtain ⟨_, rfl, rfl⟩ := h; exact ⟨fun b e => (by cases e), fun b e => (by cases e)⟩
  | some L => exact h.1.lt

theorem RowsAt.ne_blk {w : World} {v : Value} {L : List PG.Line} {ob : Option Nat} {rb : List Nat} {g : Nat} {cs : Array Value} {t : TypeId} (h : RowsAt w v L ob rb) (hb : Blk w g t cs) (h1 : 40 ≠ t) (h2 : 42 ≠ t) : (∀ b, ob = some b → b ≠ g) ∧ ∀ b ∈ rb, b ≠ g := by
  obtain ⟨vals, hS, hl, hr⟩ := h
  refine ⟨fun b e => ?_, fun b hb' => ?_⟩
  · subst e; exact hS.ne_blk hb h1
  · obtain ⟨i, hi, rfl⟩ := List.mem_iff_getElem.1 hb'
    obtain ⟨u, b', e1, e2, e3⟩ := hr i L[i] (List.getElem?_eq_getElem (by omega))
    rw [List.getElem?_eq_getElem hi] at e2
    cases e2
    exact e3.ne_blk hb h2
theorem OtherAt.ne_blk {w : World} {v : Value} {o : Option (List PG.Line)} {ob : Option Nat} {rb : List Nat} {g : Nat} {cs : Array Value} {t : TypeId} (h : OtherAt w v o ob rb) (hb : Blk w g t cs) (h1 : 40 ≠ t) (h2 : 42 ≠ t) : (∀ b, ob = some b → b ≠ g) ∧ ∀ b ∈ rb, b ≠ g := by
  unfold OtherAt at h
  cases o with
  | none => obtain ⟨_, rfl, rfl⟩ := h; exact ⟨fun b e => (by cases e), fun b e => (by cases e)⟩
  | some L => exact h.1.ne_blk hb h1 h2

section
variable {w w' : World} {p : Nat} {F : Nat → Prop} {g g' : PG.G} {vc vt vo vp vq : Value} {bc bt bo bp : Option Nat} {rc ro rp : List Nat}

/-- Every block that it owns was there. -/
theorem GridMem.lt (h : GridMem w p g vc vt vo vp vq bc bt bo bp rc ro rp) : ∀ b, footG p bc bt bo bp rc ro rp b → b < w.heap.size := by
  intro b hb
  rcases hb with rfl | hb | hb | hb | hb | hb | hb | hb
  · exact h.blk.lt
  · exact h.cells.lt.1 b hb
  · exact h.tabs.lt b hb
  · exact h.other.lt.1 b hb
  · exact h.past.lt.1 b hb
  · exact h.cells.lt.2 b hb
  · exact h.other.lt.2 b hb
  · exact h.past.lt.2 b hb

/-- Only the Grid's own block has turned. -/
theorem GridMem.scalar (h : GridMem w p g vc vt vo vp vq bc bt bo bp rc ro rp) (ho : On w w' p 52 (gcells g' vc vt vo vp vq)) (e1 : g'.cells = g.cells) (e2 : g'.tabs = g.tabs) (e3 : g'.other = g.other) (e4 : g'.past = g.past) :
    GridMem w' p g' vc vt vo vp vq bc bt bo bp rc ro rp := by
  have nc := h.cells.ne_blk h.blk (by decide) (by decide)
  have no := h.other.ne_blk h.blk (by decide) (by decide)
  have np := h.past.ne_blk h.blk (by decide) (by decide)
  have keep : ∀ b, b < w.heap.size → b ≠ p → w'.heap[b]? = w.heap[b]? := fun b hb hn => ho.2.block b hb (by simpa using hn)
  refine ⟨ho.1, ?_, ?_, ?_, ?_, h.outs, h.rws⟩
  · rw [e1]; exact h.cells.same (fun b e => keep b (h.cells.lt.1 b e) (nc.1 b e)) (fun b e => keep b (h.cells.lt.2 b e) (nc.2 b e))
  · rw [e2]; exact h.tabs.same (fun b e => keep b (h.tabs.lt b e) (by have ht := h.tabs; rw [e] at ht; exact ht.ne_blk h.blk (by decide)))
  · rw [e3]; exact h.other.same (fun b e => keep b (h.other.lt.1 b e) (no.1 b e)) (fun b e => keep b (h.other.lt.2 b e) (no.2 b e))
  · rw [e4]; exact h.past.same (fun b e => keep b (h.past.lt.1 b e) (np.1 b e)) (fun b e => keep b (h.past.lt.2 b e) (np.2 b e))

/-- Nothing of it has turned. -/
theorem GridMem.same (h : GridMem w p g vc vt vo vp vq bc bt bo bp rc ro rp) (hs : ∀ b, footG p bc bt bo bp rc ro rp b → w'.heap[b]? = w.heap[b]?) : GridMem w' p g vc vt vo vp vq bc bt bo bp rc ro rp := by
  refine ⟨h.blk.same (hs p (.inl rfl)), ?_, ?_, ?_, ?_, h.outs, h.rws⟩
  · exact h.cells.same (fun b e => hs b (.inr (.inl e))) (fun b e => hs b (by unfold footG; simp [e]))
  · exact h.tabs.same (fun b e => hs b (by unfold footG; simp [e]))
  · exact h.other.same (fun b e => hs b (by unfold footG; simp [e])) (fun b e => hs b (by unfold footG; simp [e]))
  · exact h.past.same (fun b e => hs b (by unfold footG; simp [e])) (fun b e => hs b (by unfold footG; simp [e]))

theorem Step.of_on {cs : Array Value} {t : TypeId} (ho : On w w' p t cs) (hp : F p) : Step F F w w' :=
  ⟨ho.2.os, ho.2.tape, ho.2.output, ho.2.size, fun k hk hn => ho.2.block k hk (by rintro e; cases e; exact hn hp), fun _ h => .inl h⟩

theorem gpost_scalar (hI' : g'.Inv) (hF : ∀ b, F b → b < w.heap.size) (hM : GridMem w p g vc vt vo vp vq bc bt bo bp rc ro rp) (hfoot : ∀ b, footG p bc bt bo bp rc ro rp b → F b)
    (ho : On w w' p 52 (gcells g' vc vt vo vp vq)) (e1 : g'.cells = g.cells) (e2 : g'.tabs = g.tabs) (e3 : g'.other = g.other) (e4 : g'.past = g.past) : GPost w p F g' vq (.returned (.tuple #[])) w' :=
  ⟨F, rfl, ⟨hI', fun b hb => Nat.lt_of_lt_of_le (hF b hb) ho.2.size, vc, vt, vo, vp, bc, bt, bo, bp, rc, ro, rp, hM.scalar ho e1 e2 e3 e4, hfoot⟩, Step.of_on ho (hfoot p (.inl rfl))⟩

/-- A grid goes on over a step that is not its own. -/
theorem GridAt.keep {G G' : Nat → Prop} (h : GridAt w p F g vq) (hs : Step G G' w w') (hd : ∀ b, F b → ¬ G b) : GridAt w' p F g vq := by
  obtain ⟨hI, hF, vc, vt, vo, vp, bc, bt, bo, bp, rc, ro, rp, hM, hfoot⟩ := h
  exact ⟨hI, fun b hb => Nat.lt_of_lt_of_le (hF b hb) hs.size, vc, vt, vo, vp, bc, bt, bo, bp, rc, ro, rp, hM.same (fun b hb => hs.block b (hF b (hfoot b hb)) (hd b (hfoot b hb))), hfoot⟩
theorem GridAt.below (h : GridAt w p F g vq) (hb : Below w.heap.size w w') : GridAt w' p F g vq :=
  h.keep (G := fun _ => False) (G' := fun _ => False) ⟨hb.os, hb.tape, hb.output, hb.size, fun k hk _ => hb.block k hk, fun _ h => h.elim⟩ (fun _ _ h => h)
theorem GPost.trans {F1 : Nat → Prop} {g2 : PG.G} {w1 w2 : World} {e : Ending} (hs : Step F F1 w w1) (h : GPost w1 p F1 g2 vq e w2) : GPost w p F g2 vq e w2 := by
  obtain ⟨F2, he, h1, h2⟩ := h
  exact ⟨F2, he, h1, hs.trans h2⟩
end

end Go.Proofs.YtdbepelcgmnbbaaDoor
