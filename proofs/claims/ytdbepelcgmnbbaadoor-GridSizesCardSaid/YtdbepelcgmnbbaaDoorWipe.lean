/- Cells of a row: wiped, cut. -/
import Derived.Test.YtdbepelcgmnbbaaDoorUp
namespace Go.Proofs.YtdbepelcgmnbbaaDoor
open Go Go.RowKit

/-- A row of the screen, with all that a walk asks of it, and what becomes of the grid when it is written to. -/
theorem GridMem.rowAt {w : World} {p : Nat} {g : PG.G} {vc vt vo vp vq : Value} {bc bt bo bp : Option Nat} {rc ro rp : List Nat} (hI : g.Inv) (hM : GridMem w p g vc vt vo vp vq bc bt bo bp rc ro rp) {i : Nat} (hi : i < g.rows) :
    ∃ b o cap lb lo lc cur, vc = .slice (some ⟨b, o, none⟩) g.rows cap ∧ w.cell? ⟨b, o + i, none⟩ = some (.slice (some ⟨lb, lo, none⟩) g.cols lc) ∧ g.cols ≤ lc ∧ (g.cells.getD i []).length = g.cols ∧
      SlAt w 42 4 (.slice (some ⟨lb, lo, none⟩) g.cols lc) g.cols (flat (g.cells.getD i [])) (some lb) ∧ Blk w lb 42 cur ∧ lo + lc * 4 ≤ cur.size ∧ b < w.heap.size ∧ lb < w.heap.size ∧ footG p bc bt bo bp rc ro rp lb ∧ b ≠ lb ∧ lb ≠ p ∧
      ∀ w' l', l'.length = g.cols → SlAt w' 42 4 (.slice (some ⟨lb, lo, none⟩) g.cols lc) g.cols (flat l') (some lb) → (∀ k, k < w.heap.size → k ≠ lb → w'.heap[k]? = w.heap[k]?) →
        GridMem w' p { g with cells := g.cells.set i l' } vc vt vo vp vq bc bt bo bp rc ro rp := by
  have hil : i < g.cells.length := by rw [hI.cells.1]; exact hi
  have hL : g.cells[i]? = some g.cells[i] := List.getElem?_eq_getElem hil
  have hD : g.cells.getD i [] = g.cells[i] := by rw [List.getD_eq_getElem?_getD, hL]; rfl
  have hlen : g.cells[i].length = g.cols := (hI.cells.2 _ (List.mem_of_getElem? hL)).1
  obtain ⟨b, o, cap, lb, lo, lc, hv, hob, _, hcell, hrb, hlc, hrow⟩ := hM.cells.row hL
  rw [hI.cells.1] at hv
  rw [hlen] at hcell hlc hrow
  obtain ⟨b', o', cap', cur, e1, e2, hB, _, hsz, _⟩ := hrow.some_ (by simp)
  cases e1
  cases e2
  have hne : b ≠ lb := by
    obtain ⟨vals, hS, _⟩ := hM.cells
    rw [hob] at hS
    exact hS.ne_ hrow (by decide)
  refine ⟨b, o, cap, lb, lo, lc, cur, hv, hcell, hlc, by rw [hD]; exact hlen, by rw [hD]; exact hrow, hB, hsz, hM.cells.lt.1 b hob, hB.lt, .inr (.inr (.inr (.inr (.inr (.inl (List.mem_of_getElem? hrb)))))), hne, (hM.apart (.inr (List.mem_of_getElem? hrb))).1, ?_⟩
  intro w' l' hl' hS' hk
  refine hM.setrow hL hrb (u := .slice (some ⟨lb, lo, none⟩) g.cols lc) (by rw [hlen]; exact hrow) (by rw [hl']; exact hS') hk ?_
  intro vals hS
  subst hv
  rw [hI.cells.1] at hS
  have h1 : vals.length = g.rows := by have := hS.len; omega
  have h2 := hS.cells i vals[i] (List.getElem?_eq_getElem (by omega))
  rw [hcell] at h2
  rw [List.getElem?_eq_getElem (by omega)]
  exact h2.symm ▸ rfl

theorem Step.of_grown {F : Nat → Prop} {w w' : World} {b : Nat} (hg : w.grownBy w' (some b)) (hb : F b) : Step F F w w' :=
  ⟨hg.os, hg.tape, hg.output, hg.size, fun k hk hn => hg.block k hk (by rintro e; cases e; exact hn hb), fun _ h => .inl h⟩

theorem wipeLine_over (l : PG.Line) (fr to : Nat) (h1 : fr ≤ to) : over l fr (PG.line (to - fr)) = PG.G.wipeLine l fr to := by
  unfold over PG.G.wipeLine
  rw [show fr + (PG.line (to - fr)).length = to by simp [PG.line]; omega, List.append_assoc]

set_option maxRecDepth 20000 in
set_option maxHeartbeats 4000000 in
theorem wipe_any {w : World} {p : Nat} {F : Nat → Prop} {g : PG.G} {vq : Value} (h : GridAt w p F g vq) (row fr to : Nat) (hr : row < g.rows) (hft : fr < to) (ht : to ≤ g.cols) :
    Calls Tryd.prog 73 #[.pointer (some ⟨p, 0, none⟩), .int .i64 row, .int .i64 fr, .int .i64 to] w (GPost w p F (g.wipe row fr to) vq) := by
  obtain ⟨i0, hi, hz0, hz1, hz2⟩ := info_parts Tryd.infoCell
  obtain ⟨hI, hF, vc, vt, vo, vp, bc, bt, bo, bp, rc, ro, rp, hM, hfoot⟩ := h
  have hb := hM.blk
  have h2 := hI.r2
  have h3 := hI.c2
  obtain ⟨b, o, cap, lb, lo, lc, cur, rfl, hcell, hlc, hll, hrow, hB, hsz, hbl, hlbl, hfl, hbne, hlp, hset⟩ := hM.rowAt hI hr
  have c2 := gc_cells hb
  have hpl := hb.lt
  have hlcf : ¬ lc = fr := by omega
  have i1 : (0 : Int) ≤ (fr : Int) := by omega
  have i2 : (fr : Int) ≤ (to : Int) := by omega
  have i3 : (to : Int) ≤ (lc : Int) := by omega
  have i4 : (0 : Int) ≤ (row : Int) := by omega
  have i5 : (row : Int) < (g.rows : Int) := by omega
  have hsub : (to : Int) - (fr : Int) = ((to - fr : Nat) : Int) := by omega
  have hw : IntKind.i64.wrap ((to - fr : Nat) : Int) = ((to - fr : Nat) : Int) := IntWalk.i64_in _ (by omega)
  have HR := Lib.hid (And.intro hrow (And.intro hB (And.intro hsz (And.intro hll hset))))
  have HFIN := Lib.hid (And.intro hF (And.intro hfoot (And.intro hfl hM)))
  clear hrow hset hsz hM hll hF hfoot hfl hb hB
  go_enter Tryd.func73, Tryd.ntmps73
  go_wp2_with fail
  go_region_held3 (fun w' => w'.cell? ⟨p, 2, none⟩ = some (.slice (some ⟨b, o, none⟩) g.rows cap) ∧ w'.cell? ⟨b, o + row, none⟩ = some (.slice (some ⟨lb, lo, none⟩) g.cols lc)) (go_keep) (first
    | (go_at_call 22; refine (line_any (to - fr) _ (by omega)).mono ?_; rintro e w1 ⟨v1, g1, rfl, hS1, hg1, hb1⟩; obtain ⟨a1, c1, rfl, _⟩ := hS1.form; have HS1 := Lib.hid hS1; clear hS1; have k1 : w1.cell? ⟨p, 2, none⟩ = some (.slice (some ⟨b, o, none⟩) g.rows cap) := (hb1.cell (p := ⟨p, 2, none⟩) hpl).trans c2; have k2 : w1.cell? ⟨b, o + row, none⟩ = some (.slice (some ⟨lb, lo, none⟩) g.cols lc) := (hb1.cell (p := ⟨b, o + row, none⟩) hbl).trans hcell)
    | (refine step_copy_to _ (by rfl) (.tmp 17) (.tmp 21) 40 40 (by rfl) 42 i0 4 Tryd.underlying40 hi hz1 (some ⟨lb, lo + fr * 4, none⟩) a1 (to - fr) (lc - fr) (PG.line (to - fr)).length c1 (to - fr) (by go_simp) (by go_simp) (by simp [PG.line]) lb (lo + fr * 4) cur 42 (Blk.below (w := w.drew) HR.out.2.1 hb1 hlbl) (flat (PG.line (to - fr))) (by rw [length_flat]; simp [PG.line]) (fun _ => rfl) HS1.out.from_ (by have := HR.out.2.2.1; rw [length_flat]; simp [PG.line]; omega) (flat_one _) ?_; intro w4 hB4 hg4 hs4; have HB4 := Lib.hid hB4; clear hB4; have k3 : w4.cell? ⟨p, 2, none⟩ = some (.slice (some ⟨b, o, none⟩) g.rows cap) := (hg4.cell_far ⟨p, 2, none⟩ (World.block_lt_of_cell? w1 _ k1) (fun e => hlp (Option.some.inj e).symm)).trans k1; have k4 : w4.cell? ⟨b, o + row, none⟩ = some (.slice (some ⟨lb, lo, none⟩) g.cols lc) := (hg4.cell_far ⟨b, o + row, none⟩ (World.block_lt_of_cell? w1 _ k2) (fun e => hbne (Option.some.inj e))).trans k2))
  all_goals go_end0
  obtain ⟨hrow, hB, hsz, hll, hset⟩ := HR.out
  obtain ⟨hF, hfoot, hfl, hM⟩ := HFIN.out
  have hk : ∀ k, k < w.heap.size → k ≠ lb → w4.heap[k]? = w.heap[k]? := fun k hk hn => (hg4.block k (Nat.lt_of_lt_of_le hk hb1.size) (by intro e; cases e; exact hn rfl)).trans (hb1.block k hk)
  have hS4 := ((hrow.below (w := w.drew) hb1 (fun k e => by cases e; exact hlbl)).laid (cs := flat (PG.line (to - fr))) (Blk.below (w := w.drew) hB hb1 hlbl) (fr * 4) (by rw [length_flat, length_flat, hll]; simp [PG.line]; omega) HB4.out)
  rw [flat_over, wipeLine_over _ _ _ (by omega)] at hS4
  have hM4 := hset w4 (PG.G.wipeLine (g.cells.getD row []) fr to) (by simp only [PG.G.wipeLine, PG.line, List.length_append, List.length_take, List.length_replicate, List.length_drop]; omega) hS4 hk
  refine ⟨F, rfl, ⟨hI.wipe hr (by omega) ht, fun k hk => Nat.lt_of_lt_of_le (hF k hk) (Nat.le_trans hb1.size hg4.size), _, vt, vo, vp, bc, bt, bo, bp, rc, ro, rp, hM4, hfoot⟩, ?_⟩
  exact (Step.of_below (F := F) (F1 := F) (w := w) (w1 := w1) ⟨hb1.os, hb1.tape, hb1.output, hb1.size, hb1.block⟩ (fun _ h => .inl h)).trans (Step.of_grown hg4 (hfoot lb hfl))

end Go.Proofs.YtdbepelcgmnbbaaDoor
