/- What a screen shows. -/
import Derived.Test.YtdbepelcgmnbbaaDoorText
import Derived.Test.YtdbepelcgmnbbaaDoorWrite
import Derived.Test.YtdbepelcgmnbbaaDoorResizeN
import Derived.Test.YtdbepelcgmnbbaaDoorResizeS
namespace Go.Proofs.YtdbepelcgmnbbaaDoor
open Go Go.RowKit

/-- The value of a screen. -/
def screenVal (g : PG.G) (v : Value) : Value := .agg #[.int .i64 g.rows, .int .i64 g.cols, v, .int .i64 g.at_.row, .int .i64 g.at_.col, .bool g.hidden]
def ScreenPost (w : World) (g : PG.G) (e : Ending) (w' : World) : Prop :=
  ∃ v ob rb, e = .returned (screenVal g v) ∧ RowsAt w' v g.cells ob rb ∧ (∀ b, ob = some b → w.heap.size ≤ b) ∧ (∀ b ∈ rb, w.heap.size ≤ b) ∧ rb.Nodup ∧ Below w.heap.size w w'

set_option maxRecDepth 20000 in
set_option maxHeartbeats 4000000 in
theorem screen_any {w : World} {p : Nat} {F : Nat → Prop} {g : PG.G} {vq : Value} (h : GridAt w p F g vq) : Calls Tryd.prog 12 #[.pointer (some ⟨p, 0, none⟩)] w (ScreenPost w g) := by
  obtain ⟨hI, hF, vc, vt, vo, vp, bc, bt, bo, bp, rc, ro, rp, hM, hfoot⟩ := h
  have hb := hM.blk
  have hpl := hb.lt
  have c0 := gc_rows hb
  have c1 := gc_cols hb
  have c2 := gc_cells hb
  have c3 := gc_row hb
  have c4 := gc_col hb
  have c21 := gc_hidden hb
  have hpn : p ≠ w.heap.size := by omega
  have HI := Lib.hid (And.intro hI hM)
  have hsc : ∀ v, screenVal g v = .agg #[.int .i64 g.rows, .int .i64 g.cols, v, .int .i64 g.at_.row, .int .i64 g.at_.col, .bool g.hidden] := fun v => rfl
  have HSC := Lib.hid hsc
  clear hI hF hM hfoot hb hsc
  go_enter Tryd.func12, Tryd.ntmps12
  go_wp2_with fail
  go_region_held3 (fun w' => w'.cell? ⟨p, 0, none⟩ = some (.int .i64 g.rows) ∧ w'.cell? ⟨p, 1, none⟩ = some (.int .i64 g.cols) ∧ w'.cell? ⟨p, 2, none⟩ = some vc ∧ w'.cell? ⟨p, 3, none⟩ = some (.int .i64 g.at_.row) ∧ w'.cell? ⟨p, 4, none⟩ = some (.int .i64 g.at_.col) ∧ w'.cell? ⟨p, 21, none⟩ = some (.bool g.hidden)) (first | (go_keep; done) | (refine ⟨?_, ?_, ?_, ?_, ?_, ?_⟩ <;> (repeat (refine (World.cell?_setCell_other _ _ _ _ (by simp; try omega)).trans ?_)) <;> assumption)) (first
    | (go_at_call 24; refine (copied_any vc g.cells bc rc _ (by exact RowsAt.same HI.out.2.cells (fun b e => Below.heap_alloc w _ b (HI.out.2.cells.lt.1 b e)) (fun b e => Below.heap_alloc w _ b (HI.out.2.cells.lt.2 b e))) (by have := HI.out.1.cells.1; have := HI.out.1.r2; omega) (fun l hl => by have := (HI.out.1.cells.2 l hl).1; have := HI.out.1.c2; omega)).mono ?_; rintro e w1 ⟨v1, o1, r1, rfl, hR1, ho1, hr1, hn1, hb1⟩; obtain ⟨a1, m1, k1, rfl⟩ : ∃ a n c, v1 = .slice a n c := (by obtain ⟨vals, hS, _⟩ := hR1; obtain ⟨a, c, e, _⟩ := hS.form; exact ⟨a, _, c, e⟩); have HR1 := Lib.hid (And.intro hR1 (And.intro ho1 (And.intro hr1 (And.intro hn1 hb1)))); have q0 : w1.cell? ⟨p, 0, none⟩ = some (.int .i64 g.rows) := (hb1.cell (p := ⟨p, 0, none⟩) (by simp; omega)).trans ((World.cell?_of_block (Below.heap_alloc w _ p hpl)).trans c0); have q1 : w1.cell? ⟨p, 1, none⟩ = some (.int .i64 g.cols) := (hb1.cell (p := ⟨p, 1, none⟩) (by simp; omega)).trans ((World.cell?_of_block (Below.heap_alloc w _ p hpl)).trans c1); have q2 : w1.cell? ⟨p, 2, none⟩ = some vc := (hb1.cell (p := ⟨p, 2, none⟩) (by simp; omega)).trans ((World.cell?_of_block (Below.heap_alloc w _ p hpl)).trans c2); have q3 : w1.cell? ⟨p, 3, none⟩ = some (.int .i64 g.at_.row) := (hb1.cell (p := ⟨p, 3, none⟩) (by simp; omega)).trans ((World.cell?_of_block (Below.heap_alloc w _ p hpl)).trans c3); have q4 : w1.cell? ⟨p, 4, none⟩ = some (.int .i64 g.at_.col) := (hb1.cell (p := ⟨p, 4, none⟩) (by simp; omega)).trans ((World.cell?_of_block (Below.heap_alloc w _ p hpl)).trans c4); have q21 : w1.cell? ⟨p, 21, none⟩ = some (.bool g.hidden) := (hb1.cell (p := ⟨p, 21, none⟩) (by simp; omega)).trans ((World.cell?_of_block (Below.heap_alloc w _ p hpl)).trans c21); have BX := Lib.hid (show Blk w1 w.heap.size 37 #[.int .i64 0, .int .i64 0, .slice none 0 0, .int .i64 0, .int .i64 0, .bool false] from Blk.below (w := w.alloc (.cells #[.int .i64 0, .int .i64 0, .slice none 0 0, .int .i64 0, .int .i64 0, .bool false] 37)) (Blk.new _ _ _) ⟨hb1.os, hb1.tape, hb1.output, hb1.size, hb1.block⟩ (by simp)); have x0 : w1.cell? ⟨w.heap.size, 0, none⟩ = some (.int .i64 0) := BX.out.cell 0; have y0 := BX.out.frozen 0; have x1 : w1.cell? ⟨w.heap.size, 1, none⟩ = some (.int .i64 0) := BX.out.cell 1; have y1 := BX.out.frozen 1; have x2 : w1.cell? ⟨w.heap.size, 2, none⟩ = some (.slice none 0 0) := BX.out.cell 2; have y2 := BX.out.frozen 2; have x3 : w1.cell? ⟨w.heap.size, 3, none⟩ = some (.int .i64 0) := BX.out.cell 3; have y3 := BX.out.frozen 3; have x4 : w1.cell? ⟨w.heap.size, 4, none⟩ = some (.int .i64 0) := BX.out.cell 4; have y4 := BX.out.frozen 4; have x5 : w1.cell? ⟨w.heap.size, 5, none⟩ = some (.bool false) := BX.out.cell 5; have y5 := BX.out.frozen 5; clear hR1 ho1 hr1 hn1 hb1))
  all_goals
    go_wp2
    refine bodyPost_ret (v := .agg #[.int .i64 g.rows, .int .i64 g.cols, .slice a1 m1 k1, .int .i64 g.at_.row, .int .i64 g.at_.col, .bool g.hidden]) (by simp [results, Tryd.results12, go_sem, x0, x1, x2, x3, x4, x5]) rfl ?_
    obtain ⟨hR1, ho1, hr1, hn1, hb1⟩ := HR1.out
    rw [← HSC.out]
    have hb1' : Below (w.heap.size + 1) (w.alloc (.cells #[.int .i64 0, .int .i64 0, .slice none 0 0, .int .i64 0, .int .i64 0, .bool false] 37)) w1 := ⟨hb1.os, hb1.tape, hb1.output, by have := hb1.size; simpa using this, fun k hk => hb1.block k (by simpa using hk)⟩
    have hon := hR1.ne_blk BX.out (by decide) (by decide)
    refine ⟨_, o1, r1, rfl, ?_, fun b e => by have := ho1 b e; simp at this; omega, fun b e => by have := hr1 b e; simp at this; omega, hn1, ?_⟩
    · refine hR1.same (fun b e => ?_) (fun b e => ?_)
      · have hne := hon.1 b e
        repeat (refine (Below.heap_setCell _ _ _ b hne).trans ?_)
        rfl
      · have hne := hon.2 b e
        repeat (refine (Below.heap_setCell _ _ _ b hne).trans ?_)
        rfl
    · have hb0 : Below w.heap.size w w1 := ((Below.refl _ w).alloc (Nat.le_refl _) _).trans (hb1'.mono (by omega))
      exact (((((hb0.setCell (by simp) _).setCell (by simp) _).setCell (by simp) _).setCell (by simp) _).setCell (by simp) _).setCell (by simp) _

def PastPost (w : World) (g : PG.G) (e : Ending) (w' : World) : Prop := NewRows w g.past e w'

set_option maxRecDepth 20000 in
set_option maxHeartbeats 1000000 in
theorem past_any {w : World} {p : Nat} {F : Nat → Prop} {g : PG.G} {vq : Value} (h : GridAt w p F g vq) : Calls Tryd.prog 13 #[.pointer (some ⟨p, 0, none⟩)] w (PastPost w g) := by
  obtain ⟨hI, hF, vc, vt, vo, vp, bc, bt, bo, bp, rc, ro, rp, hM, hfoot⟩ := h
  have c31 := gc_past hM.blk
  have HI := Lib.hid (And.intro hI hM)
  clear hI hF hM hfoot
  go_enter Tryd.func13, Tryd.ntmps13
  go_wp2_with fail
  refine (copied_any vp g.past bp rp _ (by exact HI.out.2.past) (by have := HI.out.1.past.1; omega) (fun l hl => by have := (HI.out.1.past.2 l hl).1; omega)).mono ?_
  rintro e w1 ⟨v1, o1, r1, rfl, hR1, ho1, hr1, hn1, hb1⟩
  go_wp2
  go_ret
  exact ⟨_, o1, r1, rfl, hR1, ho1, hr1, hn1, hb1⟩

set_option maxRecDepth 20000 in
set_option maxHeartbeats 1000000 in
theorem gLine_any {w : World} {p : Nat} {F : Nat → Prop} {g : PG.G} {vq : Value} (h : GridAt w p F g vq) (i : Nat) (hi : i < g.rows) :
    Calls Tryd.prog 17 #[.pointer (some ⟨p, 0, none⟩), .int .i64 i] w fun e w' => e = .returned (.string ⟨(lineText (g.cells.getD i [])).toArray⟩) ∧ Below w.heap.size w w' := by
  obtain ⟨hI, hF, vc, vt, vo, vp, bc, bt, bo, bp, rc, ro, rp, hM, hfoot⟩ := h
  have hb := hM.blk
  have hcl := hI.cells.1
  have hil : i < g.cells.length := by omega
  have hr2 := hI.r2
  obtain ⟨l, hl⟩ : ∃ l, l = g.cells.getD i [] := ⟨_, rfl⟩
  have hLi : g.cells[i]? = some l := by rw [hl, List.getD_eq_getElem?_getD, List.getElem?_eq_getElem hil]; rfl
  obtain ⟨cb, co, cc, lb, lo, lc, rfl, hob, hcc, hcell, hrb, hlc, hrow⟩ := hM.cells.row hLi
  have hll : l.length ≤ 120 := by have := (hI.cells.2 l (List.mem_of_getElem? hLi)).1; have := hI.c2; omega
  rw [hcl] at hb hcc
  have c0 := gc_rows hb
  have c2 := gc_cells hb
  have hi0 : (0 : Int) ≤ (i : Int) := by omega
  have hi1 : (i : Int) < (g.rows : Int) := by omega
  have d0 : decide ((i : Int) < 0) = false := decide_eq_false (by omega)
  have d1 : decide ((g.rows : Int) ≤ (i : Int)) = false := decide_eq_false (by omega)
  have d2 : decide (g.rows ≤ i) = false := decide_eq_false (by omega)
  rw [← hl]
  obtain ⟨n, hn⟩ : ∃ n, n = l.length := ⟨_, rfl⟩
  rw [← hn] at hcell hrow hll
  have HR := Lib.hid (And.intro hrow hn)
  clear hI hF hM hfoot hb hcl hil hl hLi hob hcc hrb hlc hrow hn
  go_enter Tryd.func17, Tryd.ntmps17
  go_wp2_with fail
  refine (text_any w l (.slice (some ⟨lb, lo, none⟩) n lc) (some lb) (by rw [← HR.out.2]; exact HR.out.1) (by rw [← HR.out.2]; omega)).mono ?_
  rintro e w1 ⟨rfl, hb1⟩
  go_wp2
  go_ret
  exact ⟨rfl, hb1⟩

set_option maxRecDepth 20000 in
theorem resize_any {w : World} {p : Nat} {F : Nat → Prop} {g : PG.G} {aq : Option Addr} (h : GridAt w p F g (.pointer aq)) (rows cols : Nat) (h1 : 1 ≤ rows) (h2 : rows ≤ 60) (h3 : 1 ≤ cols) (h4 : cols ≤ 120) :
    Calls Tryd.prog 11 #[.pointer (some ⟨p, 0, none⟩), .int .i64 rows, .int .i64 cols] w (ResizePost w p F (g.resize rows cols) (.pointer aq)) := by
  cases ho : g.other with
  | none => exact resize_none h rows cols h1 h2 h3 h4 ho
  | some L => exact resize_some h rows cols h1 h2 h3 h4 ho

end Go.Proofs.YtdbepelcgmnbbaaDoor
