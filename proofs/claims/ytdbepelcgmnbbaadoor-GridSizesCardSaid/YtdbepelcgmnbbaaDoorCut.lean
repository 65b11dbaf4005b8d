/- Cells of a row: put in, taken out, blanked. -/
import Derived.Test.YtdbepelcgmnbbaaDoorErase
namespace Go.Proofs.YtdbepelcgmnbbaaDoor
open Go Go.RowKit

theorem GridMem.rowOver {w : World} {p : Nat} {g : PG.G} {vc vt vo vp vq : Value} {bc bt bo bp : Option Nat} {rc ro rp : List Nat} (hI : g.Inv) (hM : GridMem w p g vc vt vo vp vq bc bt bo bp rc ro rp) {i : Nat} (hi : i < g.rows) :
    ∃ b o cap lb lo lc cur, vc = .slice (some ⟨b, o, none⟩) g.rows cap ∧ w.cell? ⟨b, o + i, none⟩ = some (.slice (some ⟨lb, lo, none⟩) g.cols lc) ∧ g.cols ≤ lc ∧ (g.cells.getD i []).length = g.cols ∧
      SlAt w 42 4 (.slice (some ⟨lb, lo, none⟩) g.cols lc) g.cols (flat (g.cells.getD i [])) (some lb) ∧ Blk w lb 42 cur ∧ lo + lc * 4 ≤ cur.size ∧ b < w.heap.size ∧ lb < w.heap.size ∧ footG p bc bt bo bp rc ro rp lb ∧ b ≠ lb ∧ lb ≠ p ∧
      ∀ w' k new, k + List.length new ≤ g.cols → Blk w' lb 42 (laidOver cur (lo + k * 4) (flat new)) → (∀ k, k < w.heap.size → k ≠ lb → w'.heap[k]? = w.heap[k]?) →
        GridMem w' p { g with cells := g.cells.set i (over (g.cells.getD i []) k new) } vc vt vo vp vq bc bt bo bp rc ro rp := by
  obtain ⟨b, o, cap, lb, lo, lc, cur, hv, hcell, hlc, hll, hrow, hB, hsz, hbl, hlbl, hfl, hbne, hlp, hset⟩ := hM.rowAt hI hi
  refine ⟨b, o, cap, lb, lo, lc, cur, hv, hcell, hlc, hll, hrow, hB, hsz, hbl, hlbl, hfl, hbne, hlp, fun w' k new hk hB' hs => hset w' _ (by rw [length_over _ _ _ (by omega), hll]) ?_ hs⟩
  obtain ⟨hl, h⟩ := hrow
  have hlo : (flat (over (g.cells.getD i []) k new)).length = g.cols * 4 := by rw [length_flat, length_over _ _ _ (by omega), hll]
  refine ⟨hlo, ?_⟩
  rcases h with ⟨h, _⟩ | ⟨b', o', cap', cur', hv, hb, hB', hcc, hs, hx⟩
  · cases h
  · cases hv
    cases hb
    have e := hB.eq_ hB'
    subst e
    refine .inr ⟨lb, lo, lc, _, rfl, rfl, by assumption, hcc, by rw [size_laidOver]; exact hs, fun j x hj => ?_⟩
    rw [← flat_over] at hj
    rw [get_laidOver _ _ _ _ (by rw [length_flat]; omega)]
    rw [get_over _ _ _ _ (by rw [length_flat, length_flat]; omega)] at hj
    by_cases h1 : k * 4 ≤ j ∧ j < k * 4 + (flat new).length
    · rw [if_pos h1] at hj
      rw [if_pos (by omega), show lo + j - (lo + k * 4) = j - k * 4 by omega]
      exact hj
    · rw [if_neg h1] at hj
      rw [if_neg (by omega)]
      exact hx j x hj

theorem cut_put (l : PG.Line) (col n m : Nat) (h : col ≤ l.length) (hm : m = min n (l.length - col)) : over l col (PG.line m ++ (l.drop col).take (l.length - col - m)) = PG.G.cutLine 64 l col n := by
  subst hm
  unfold over PG.G.cutLine
  simp only []
  rw [if_pos trivial]
  simp only [List.length_drop, List.length_append, List.length_take, PG.line, List.length_replicate]
  rw [List.drop_of_length_le (l := l) (i := col + _) (by omega), List.append_nil]
theorem cut_take (l : PG.Line) (col n m : Nat) (h : col ≤ l.length) (hm : m = min n (l.length - col)) : over l col ((l.drop col).drop m ++ PG.line m) = PG.G.cutLine 80 l col n := by
  subst hm
  unfold over PG.G.cutLine
  simp only []
  rw [if_neg (by decide), if_pos trivial]
  simp only [List.length_drop, List.length_append, PG.line, List.length_replicate]
  rw [List.drop_of_length_le (l := l) (i := col + _) (by omega), List.append_nil]
theorem cut_blank (what : Int) (l : PG.Line) (col n m : Nat) (h0 : what ≠ 64) (h1 : what ≠ 80) (hm : m = min n (l.length - col)) : over l col (PG.line m) = PG.G.cutLine what l col n := by
  subst hm
  unfold over PG.G.cutLine
  simp only []
  rw [if_neg h0, if_neg h1]
  simp [PG.line]

set_option maxRecDepth 20000 in
set_option maxHeartbeats 4000000 in
theorem cut_any {w : World} {p : Nat} {F : Nat → Prop} {g : PG.G} {vq : Value} (h : GridAt w p F g vq) (what : Int) (n : Nat) (hn : n ≤ 100000) :
    Calls Tryd.prog 67 #[.pointer (some ⟨p, 0, none⟩), .int .i32 what, .int .i64 n] w (GPost w p F (g.cut what n) vq) := by
  obtain ⟨i0, hi, hz0, hz1, hz2⟩ := info_parts Tryd.infoCell
  obtain ⟨hI, hF, vc, vt, vo, vp, bc, bt, bo, bp, rc, ro, rp, hM, hfoot⟩ := h
  have hb := hM.blk
  have h2 := hI.r2
  have h3 := hI.c2
  have h4 := hI.row
  have h5 := hI.col
  obtain ⟨b, o, cap, lb, lo, lc, cur, rfl, hcell, hlc, hll, hrow, hB, hsz, hbl, hlbl, hfl, hbne, hlp, hset⟩ := hM.rowOver hI h4
  have c2 := gc_cells hb
  have c3 := gc_row hb
  have c4 := gc_col hb
  have hlcf : ¬ lc = g.at_.col := by omega
  obtain ⟨l, hl⟩ : ∃ l, l = g.cells.getD g.at_.row [] := ⟨_, rfl⟩
  obtain ⟨m, hm⟩ : ∃ m, m = min n (g.cols - g.at_.col) := ⟨_, rfl⟩
  have hlm : (PG.line m).length = m := by simp [PG.line]
  have hmin : (if g.cols - g.at_.col < n then ((g.cols - g.at_.col : Nat) : Int) else (n : Int)) = (m : Int) := by split <;> omega
  have hm1 : m ≤ g.cols - g.at_.col := by omega
  rw [← hl] at hll hrow hset
  have hS1 : SlAt w 42 4 (.slice (some ⟨lb, lo + g.at_.col * 4, none⟩) (g.cols - g.at_.col) (lc - g.at_.col)) (g.cols - g.at_.col) (flat (l.drop g.at_.col)) (some lb) := by
    have := hrow.from (k := g.at_.col) (by omega)
    rw [if_neg hlcf, ← flat_drop] at this
    exact this
  have i1 : (0 : Int) ≤ (g.at_.col : Int) := by omega
  have i2 : (g.at_.col : Int) ≤ (g.cols : Int) := by omega
  have i4 : (0 : Int) ≤ (g.at_.row : Int) := by omega
  have i5 : (g.at_.row : Int) < (g.rows : Int) := by omega
  have hcutm : g.cols - g.at_.col - m + m = g.cols - g.at_.col := by omega
  have HR := Lib.hid (And.intro hS1 (And.intro hB (And.intro hsz (And.intro hll (And.intro hset hm)))))
  have HFIN := Lib.hid (And.intro hF (And.intro hfoot (And.intro hfl hl)))
  have hpl := hb.lt
  -- the end, for all three
  have hend : ∀ (w1 w4 : World) (new : PG.Line), Below w.heap.size w w1 → w1.grownBy w4 (some lb) → Blk w4 lb 42 (laidOver cur (lo + g.at_.col * 4) (flat new)) → g.at_.col + new.length ≤ g.cols →
      over l g.at_.col new = PG.G.cutLine what l g.at_.col n → GPost w p F (g.cut what n) vq (.returned (.tuple #[])) w4 := by
    intro w1 w4 new hb1 hg4 hB4 hlen he
    have hk : ∀ k, k < w.heap.size → k ≠ lb → w4.heap[k]? = w.heap[k]? := fun k hk hn => (hg4.block k (Nat.lt_of_lt_of_le hk hb1.size) (by intro e; cases e; exact hn rfl)).trans (hb1.block k hk)
    have hM4 := hset w4 g.at_.col new hlen hB4 hk
    rw [he, hl] at hM4
    refine ⟨F, rfl, ⟨hI.cut what n, fun k hk => Nat.lt_of_lt_of_le (hF k hk) (Nat.le_trans hb1.size hg4.size), _, vt, vo, vp, bc, bt, bo, bp, rc, ro, rp, hM4, hfoot⟩, ?_⟩
    exact (Step.of_below (F := F) (F1 := F) (w := w) (w1 := w1) hb1 (fun _ h => .inl h)).trans (Step.of_grown hg4 (hfoot lb hfl))
  have HEND := Lib.hid hend
  clear hend hrow hset hsz hM hll hF hfoot hfl hb hB hS1 hl hm
  by_cases hw : what = 64
  · subst hw
    have hw' : IntKind.i64.wrap (((g.cols - g.at_.col : Nat) : Int) - (m : Int)) = ((g.cols - g.at_.col - m : Nat) : Int) := by rw [IntWalk.i64_in _ (by omega)]; omega
    have hT : SlAt w 42 4 (.slice (some ⟨lb, lo + g.at_.col * 4, none⟩) (g.cols - g.at_.col - m) (lc - g.at_.col)) (g.cols - g.at_.col - m) (flat ((l.drop g.at_.col).take (g.cols - g.at_.col - m))) (some lb) := by
      have := HR.out.1.to (k := g.cols - g.at_.col - m) (by omega)
      rw [← flat_take] at this
      exact this
    have HT := Lib.hid hT
    clear hT
    have hbd : g.cols ≤ lc - g.at_.col + m + g.at_.col := by omega
    go_enter Tryd.func67, Tryd.ntmps67
    go_wp2
    go_region
    go_wp2_with fail
    go_region_held3 (fun w' => w'.cell? ⟨p, 3, none⟩ = some (.int .i64 g.at_.row)) (go_keep) (first
      | (go_at_call 22; refine (line_any m _ (by omega)).mono ?_; rintro e w1 ⟨v1, g1, rfl, hS1, hg1, hb1⟩; rw [hlm] at hS1; obtain ⟨a1, c1, rfl, _⟩ := hS1.form; have HS1 := Lib.hid hS1; have hgne : g1 ≠ lb := (by have := hlbl; simp at hg1; omega); clear hS1; have k1 : w1.cell? ⟨p, 3, none⟩ = some (.int .i64 g.at_.row) := (hb1.cell (p := ⟨p, 3, none⟩) hpl).trans c3)
      | (refine step_append_sl _ (by rfl) (.tmp 37) (.tmp 43) 40 40 (by rfl) 42 i0 _ 4 32 Tryd.underlying40 hi hz0 hz1 hz2 rfl (.slice a1 m c1) m (flat (PG.line m)) (some g1) (by go_simp) HS1.out (.slice (some ⟨lb, lo + g.at_.col * 4, none⟩) (g.cols - g.at_.col - m) (lc - g.at_.col)) (g.cols - g.at_.col - m) (flat ((l.drop g.at_.col).take (g.cols - g.at_.col - m))) (by go_simp) ((SlAt.below (w := w.drew.drew) HT.out hb1 (fun k e => by cases e; exact hlbl)).src (P := Tryd.prog) Tryd.underlying40 (flat_one _)) (by unfold maxLen; omega) (by omega) ?_; intro v3 o3 w3 hS3 hg3 ho3; obtain ⟨a3, c3, rfl, _⟩ := hS3.form; have HS3 := Lib.hid hS3; clear hS3; have B3 := Lib.hid ((Blk.below (w := w.drew.drew) HR.out.2.1 hb1 hlbl).same (hg3.block lb (Blk.below (w := w.drew.drew) HR.out.2.1 hb1 hlbl).lt (fun e => hgne (Option.some.inj e).symm))); have k3 : w3.cell? ⟨p, 3, none⟩ = some (.int .i64 g.at_.row) := (hg3.cell_far ⟨p, 3, none⟩ (World.block_lt_of_cell? w1 _ k1) (fun e => by have h6 := Option.some.inj e; have h7 := hpl; simp at hg1 h6; omega)).trans k1)
      | (have _g := B3; refine step_copy_to _ (by rfl) (.tmp 35) (.tmp 44) 40 40 (by rfl) 42 i0 4 Tryd.underlying40 hi hz1 (some ⟨lb, lo + g.at_.col * 4, none⟩) a3 (g.cols - g.at_.col) (lc - g.at_.col) (m + (g.cols - g.at_.col - m)) c3 (g.cols - g.at_.col) (by go_simp) (by go_simp) (by show min _ _ = _; omega) lb (lo + g.at_.col * 4) cur 42 B3.out (flat (PG.line m ++ (l.drop g.at_.col).take (g.cols - g.at_.col - m))) (by have := HR.out.2.2.2.1; rw [length_flat]; simp [PG.line, this]; omega) (fun _ => rfl) (by simpa [flat_append] using HS3.out.from_) (by have := HR.out.2.2.1; have := HR.out.2.2.2.1; rw [length_flat]; simp [PG.line, this]; omega) (flat_one _) ?_; intro w4 hB4 hg4 hs4; have HB4 := Lib.hid hB4; clear hB4; have k4 : w4.cell? ⟨p, 3, none⟩ = some (.int .i64 g.at_.row) := (hg4.cell_far ⟨p, 3, none⟩ (World.block_lt_of_cell? w3 _ k3) (fun e => hlp (Option.some.inj e).symm)).trans k3))
    all_goals go_end0
    have hll := HR.out.2.2.2.1
    have e := cut_put l g.at_.col n m (by omega) (by rw [hll]; exact HR.out.2.2.2.2.2)
    rw [hll] at e
    have hb3 : Below w.heap.size w w3 := by
      have hb1 : Below w.heap.size w w1 := ⟨hb1.os, hb1.tape, hb1.output, hb1.size, hb1.block⟩
      refine ⟨hg3.os.trans hb1.os, hg3.tape.trans hb1.tape, hg3.output.trans hb1.output, Nat.le_trans hb1.size hg3.size, fun k hk => ?_⟩
      refine (hg3.block k (Nat.lt_of_lt_of_le hk hb1.size) (fun e => ?_)).trans (hb1.block k hk)
      cases e
      simp at hg1
      omega
    exact HEND.out w3 w4 _ hb3 hg4 HB4.out (by simp [PG.line, hll]; omega) e
  by_cases hw2 : what = 80
  · subst hw2
    have hT : SlAt w 42 4 (.slice (if lc - g.at_.col = m then some ⟨lb, lo + g.at_.col * 4, none⟩ else some ⟨lb, lo + g.at_.col * 4 + m * 4, none⟩) (g.cols - g.at_.col - m) (lc - g.at_.col - m)) (g.cols - g.at_.col - m) (flat ((l.drop g.at_.col).drop m)) (some lb) := by
      have := HR.out.1.from (k := m) (by omega)
      rw [← flat_drop] at this
      exact this
    obtain ⟨A, hA⟩ : ∃ A, (if lc - g.at_.col = m then some (⟨lb, lo + g.at_.col * 4, none⟩ : Addr) else some ⟨lb, lo + g.at_.col * 4 + m * 4, none⟩) = A := ⟨_, rfl⟩
    rw [hA] at hT
    have HT := Lib.hid hT
    clear hT
    go_enter Tryd.func67, Tryd.ntmps67
    go_wp2
    go_region
    go_wp2_with fail
    refine (cloneC_any A lb _ _ (flat ((l.drop g.at_.col).drop m)) _ (by exact HT.out) (flat_one _) (by omega)).mono ?_
    rintro e w1 ⟨v1, o1, rfl, hS1, hg1, ho1, hb1⟩
    obtain ⟨a1, c1, rfl, _⟩ := hS1.form
    have HS1 := Lib.hid hS1
    clear hS1
    go_wp2_with fail
    refine (line_any m _ (by omega)).mono ?_
    rintro e w2 ⟨v2, g2, rfl, hS2, hg2, hb2⟩
    rw [hlm] at hS2
    obtain ⟨a2, c2', rfl, _⟩ := hS2.form
    have HS2 := Lib.hid hS2
    clear hS2
    have B2 := Lib.hid (Blk.below (Blk.below (w := w.drew) HR.out.2.1 hb1 hlbl) hb2 (Blk.below (w := w.drew) HR.out.2.1 hb1 hlbl).lt)
    have hone : ¬ o1 = some lb := fun e => by have := hg1 lb e; simp at this; omega
    go_wp2_with (at_builtin; refine wpList_append_sl _ rfl (.tmp 52) (.tmp 54) 40 40 rfl 42 i0 _ 4 32 Tryd.underlying40 hi hz0 hz1 hz2 rfl (.slice a1 (g.cols - g.at_.col - m) c1) (g.cols - g.at_.col - m) (flat ((l.drop g.at_.col).drop m)) o1 rfl (HS1.out.below hb2 HS1.out.lt) (.slice a2 m c2') m (flat (PG.line m)) rfl (HS2.out.src (P := Tryd.prog) Tryd.underlying40 (flat_one _)) (by unfold maxLen; omega) (by omega) ?_)
    intro v3 o3 w3 hS3 hg3 ho3
    obtain ⟨a3, c3, rfl, _⟩ := hS3.form
    have HS3 := Lib.hid hS3
    clear hS3
    have B3 := Lib.hid (B2.out.same (hg3.block lb B2.out.lt (fun e => hone e.symm)))
    obtain ⟨w4, hcopy, hB4, hg4, hs4⟩ := run_copy_to (P := Tryd.prog) w3 40 40 3 42 i0 4 Tryd.underlying40 hi hz1 (some ⟨lb, lo + g.at_.col * 4, none⟩) a3 (g.cols - g.at_.col) (lc - g.at_.col) (g.cols - g.at_.col) c3 (g.cols - g.at_.col) (by show min _ _ = _; omega) lb (lo + g.at_.col * 4) cur 42 B3.out (flat ((l.drop g.at_.col).drop m ++ PG.line m)) (by have := HR.out.2.2.2.1; rw [length_flat]; simp [PG.line, this]; omega) (fun _ => rfl) (by simpa [flat_append] using HS3.out.from_) (by have := HR.out.2.2.1; have := HR.out.2.2.2.1; rw [length_flat]; simp [PG.line, this]; omega) (flat_one _)
    have HB4 := Lib.hid hB4
    clear hB4
    go_wp2
    go_end0
    have hll := HR.out.2.2.2.1
    have e := cut_take l g.at_.col n m (by omega) (by rw [hll]; exact HR.out.2.2.2.2.2)
    have hb3 : Below w.heap.size w w3 := by
      refine ⟨hg3.os.trans (hb2.os.trans hb1.os), hg3.tape.trans (hb2.tape.trans hb1.tape), hg3.output.trans (hb2.output.trans hb1.output), Nat.le_trans hb1.size (Nat.le_trans hb2.size hg3.size), fun k hk => ?_⟩
      refine (hg3.block k (Nat.lt_of_lt_of_le hk (Nat.le_trans hb1.size hb2.size)) (fun e => ?_)).trans ((hb2.block k (Nat.lt_of_lt_of_le hk hb1.size)).trans (hb1.block k hk))
      have := hg1 k e.symm
      simp at this
      omega
    exact HEND.out w3 w4 _ hb3 hg4 HB4.out (by simp [PG.line, hll]; omega) e
  · have e0 : (what == 64) = false := by simpa using hw
    have e1 : (what == 80) = false := by simpa using hw2
    go_enter Tryd.func67, Tryd.ntmps67
    go_wp2
    go_region
    go_wp2_with fail
    refine (line_any m _ (by omega)).mono ?_
    rintro e w1 ⟨v1, g1, rfl, hS1, hg1, hb1⟩
    rw [hlm] at hS1
    obtain ⟨a1, c1, rfl, _⟩ := hS1.form
    have HS1 := Lib.hid hS1
    clear hS1
    obtain ⟨w4, hcopy, hB4, hg4, hs4⟩ := run_copy_to (P := Tryd.prog) w1 40 40 3 42 i0 4 Tryd.underlying40 hi hz1 (some ⟨lb, lo + g.at_.col * 4, none⟩) a1 (g.cols - g.at_.col) (lc - g.at_.col) m c1 m (by show min _ _ = _; omega) lb (lo + g.at_.col * 4) cur 42 (Blk.below (w := w.drew) HR.out.2.1 hb1 hlbl) (flat (PG.line m)) (by rw [length_flat, hlm]) (fun _ => rfl) HS1.out.from_ (by have := HR.out.2.2.1; rw [length_flat]; simp [PG.line]; omega) (flat_one _)
    have HB4 := Lib.hid hB4
    clear hB4
    go_wp2
    go_end0
    exact HEND.out w1 w4 (PG.line m) ⟨hb1.os, hb1.tape, hb1.output, hb1.size, hb1.block⟩ hg4 HB4.out (by simp [PG.line]; omega) (cut_blank what l g.at_.col n m hw hw2 (by rw [HR.out.2.2.2.1]; exact HR.out.2.2.2.2.2))

end Go.Proofs.YtdbepelcgmnbbaaDoor
