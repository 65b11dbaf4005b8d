/- A rune is printed. -/
import Derived.Test.YtdbepelcgmnbbaaDoorCut
import Derived.Test.YtdbepelcgmnbbaaDoorScalar
import Derived.Deep.Cut
namespace Go.Proofs.YtdbepelcgmnbbaaDoor
open Go Go.RowKit

/-- Between two steps of a method. -/
def GPart (w : World) (p : Nat) (F : Nat → Prop) (g : PG.G) (vq : Value) (wx : World) : Prop := ∃ F', GridAt wx p F' g vq ∧ Step F F' w wx
theorem GPart.refl {w : World} {p : Nat} {F : Nat → Prop} {g : PG.G} {vq : Value} (h : GridAt w p F g vq) : GPart w p F g vq w := ⟨F, h, Step.refl _ _⟩
theorem GPart.drew {w wx : World} {p : Nat} {F : Nat → Prop} {g : PG.G} {vq : Value} (h : GPart w p F g vq wx) : GPart w p F g vq wx.drew := by
  obtain ⟨F', h1, h2⟩ := h
  exact ⟨F', h1.drew, h2.drew⟩

theorem shift_over (l : PG.Line) (col : Nat) (h : col < l.length) : over l (col + 1) ((l.drop col).take (l.length - (col + 1))) = PG.G.shiftRight l col := by
  unfold over PG.G.shiftRight
  rw [List.length_take, List.length_drop, List.drop_of_length_le (l := l) (i := _ + _) (by omega), List.append_nil]

theorem over_one (l : PG.Line) (col : Nat) (c : PG.Cell) (h : col < l.length) : over l col [c] = l.set col c := by
  unfold over
  rw [List.set_eq_take_append_cons_drop, if_pos h]
  simp

set_option maxRecDepth 20000 in
set_option maxHeartbeats 4000000 in
theorem print_any {w : World} {p : Nat} {F : Nat → Prop} {g : PG.G} {vq : Value} (h : GridAt w p F g vq) (r : Int) (hrune : PG.RuneOk r) :
    Calls Tryd.prog 30 #[.pointer (some ⟨p, 0, none⟩), .int .i32 r] w (GPost w p F (g.print r) vq) := by
  obtain ⟨i0, hi, hz0, hz1, hz2⟩ := info_parts Tryd.infoCell
  have H := Lib.hid h
  obtain ⟨_, _, _, _, hb⟩ := h.blk
  have c5 := gc_due hb
  have c19 := gc_wrap hb
  have f4 := hb.frozen 4
  have c4 := gc_col hb
  have HB := Lib.hid hb
  clear h hb
  go_enter Tryd.func30, Tryd.ntmps30
  go_upto_region 0 with fail
  go_cut [15] from 5 (fun s15 wx => s15 = .bool (g.at_.due && g.wrap) ∧ w = wx)
  case first =>
    cases hd : g.at_.due <;> cases hw : g.wrap <;> rw [hd] at c5 <;> rw [hw] at c19
    all_goals (go_wp2; go_meet; exact ⟨by rw [hd, hw]; rfl, rfl⟩)
  case rest =>
  obtain ⟨rfl, rfl⟩ := hcut
  go_upto_if 15 with fail
  go_cut [] from 5 (fun wx => GPart w p F g.wrapped vq wx)
  case first =>
    cases hdw : (g.at_.due && g.wrap)
    · have hfin : g.wrapped = g := by unfold PG.G.wrapped; simp [hdw]
      have HFIN := Lib.hid hfin
      clear hfin
      go_wp2
      go_meet
      rw [HFIN.out]
      exact GPart.refl H.out
    · have hfin : g.wrapped = { g with at_ := { g.at_ with col := 0 } }.index := by unfold PG.G.wrapped; simp [hdw]
      have HFIN := Lib.hid hfin
      clear hfin
      go_wp2_with fail
      have h1 := H.out.scalar (w' := w.setCell ⟨p, 4, none⟩ (.int .i64 0)) (g' := { g with at_ := { g.at_ with col := 0 } }) { H.out.1 with col := by have := H.out.1.c1; show 0 < g.cols; omega } (fun vc vt vo vp hb => on_ex ⟨_, (On.refl hb).set 4 _, by simp [gcells]⟩) rfl rfl rfl rfl
      refine (index_any (by exact h1.1)).mono ?_
      rintro e w2 ⟨F2, rfl, hG2, hst2⟩
      go_wp2
      go_meet
      rw [HFIN.out]
      exact ⟨F2, hG2, h1.2.trans hst2⟩
  case rest =>
  obtain ⟨F1, h1, s1⟩ := hcut
  have S1 := Lib.hid s1
  clear s1 c5 c19 f4 c4 HB
  obtain ⟨g1, hg1⟩ : ∃ g1, g1 = g.wrapped := ⟨_, rfl⟩
  rw [← hg1] at h1
  have HG1 := Lib.hid hg1
  clear hg1
  rename World => w1
  have H1 := Lib.hid h1
  obtain ⟨_, _, _, _, hb⟩ := h1.blk
  have c20 := gc_insert hb
  clear h1 hb
  go_upto_if 25 with fail
  go_cut [] from 5 (fun wx => GPart w1 p F1 g1.inserted vq wx)
  case first =>
    cases hins : g1.insert
    · rw [hins] at c20
      have hfin : g1.inserted = g1 := by unfold PG.G.inserted; simp [hins]
      have HFIN := Lib.hid hfin
      clear hfin
      go_wp2
      go_meet
      rw [HFIN.out]
      exact GPart.refl H1.out
    · rw [hins] at c20
      have hfin : g1.inserted = { g1 with cells := g1.cells.set g1.at_.row (PG.G.shiftRight (g1.cells.getD g1.at_.row []) g1.at_.col) } := by unfold PG.G.inserted; simp [hins]
      have HFIN := Lib.hid hfin
      clear hfin
      obtain ⟨hI, hF, vc, vt, vo, vp, bc, bt, bo, bp, rc, ro, rp, hM, hfoot⟩ := H1.out
      have hb := hM.blk
      have h2 := hI.r2
      have h3 := hI.c2
      have h4 := hI.row
      have h5 := hI.col
      have hI' := hI.inserted
      obtain ⟨b, o, cap, lb, lo, lc, cur, rfl, hcell, hlc, hll, hrow, hB, hsz, hbl, hlbl, hfl, hbne, hlp, hset⟩ := hM.rowOver hI h4
      have c2 := gc_cells hb
      have c3 := gc_row hb
      have c4 := gc_col hb
      have hpl := hb.lt
      have hlcf : ¬ lc = g1.at_.col := by omega
      obtain ⟨l, hl⟩ : ∃ l, l = g1.cells.getD g1.at_.row [] := ⟨_, rfl⟩
      rw [← hl] at hll hrow hset
      have hS1 : SlAt w1 42 4 (.slice (some ⟨lb, lo + g1.at_.col * 4, none⟩) (g1.cols - g1.at_.col) (lc - g1.at_.col)) (g1.cols - g1.at_.col) (flat (l.drop g1.at_.col)) (some lb) := by
        have := hrow.from (k := g1.at_.col) (by omega)
        rw [if_neg hlcf, ← flat_drop] at this
        exact this
      have i1 : (0 : Int) ≤ (g1.at_.col : Int) := by omega
      have i2 : (g1.at_.col : Int) ≤ (g1.cols : Int) := by omega
      have i4 : (0 : Int) ≤ (g1.at_.row : Int) := by omega
      have i5 : (g1.at_.row : Int) < (g1.rows : Int) := by omega
      have i6 : (g1.at_.col : Int) + 1 ≤ (g1.cols : Int) := by omega
      have i7 : (0 : Int) ≤ (g1.at_.col : Int) + 1 := by omega
      have i8 : ((g1.at_.col : Int) + 1).toNat = g1.at_.col + 1 := by omega
      have hw1 : IntKind.i64.wrap ((g1.at_.col : Int) + 1) = (g1.at_.col : Int) + 1 := IntWalk.i64_in _ (by omega)
      obtain ⟨A, hA⟩ : ∃ A, (if lc = g1.at_.col + 1 then some (⟨lb, lo, none⟩ : Addr) else some ⟨lb, lo + (g1.at_.col + 1) * 4, none⟩) = A := ⟨_, rfl⟩
      have HR := Lib.hid (And.intro hS1 (And.intro hB (And.intro hsz (And.intro hll hset))))
      have HFF := Lib.hid (And.intro hF (And.intro hfoot (And.intro hfl hl)))
      have HI := Lib.hid (And.intro hI hI')
      clear hrow hset hsz hM hll hF hfoot hfl hb hB hS1 hl hI hI'
      go_wp2
      go_region
      go_wp2_with fail
      go_region_held3 (fun w' => w'.cell? ⟨p, 4, none⟩ = some (.int .i64 g1.at_.col)) (go_keep) (first
        | (refine step_copy_to _ (by rfl) (.tmp 44) (.tmp 51) 40 40 (by rfl) 42 i0 4 Tryd.underlying40 hi hz1 A (some ⟨lb, lo + g1.at_.col * 4, none⟩) (g1.cols - (g1.at_.col + 1)) (lc - (g1.at_.col + 1)) (g1.cols - g1.at_.col) (lc - g1.at_.col) (g1.cols - (g1.at_.col + 1)) (by go_simp) (by go_simp) (by show min _ _ = _; omega) lb (lo + (g1.at_.col + 1) * 4) cur 42 HR.out.2.1 (flat ((l.drop g1.at_.col).take (g1.cols - (g1.at_.col + 1)))) (by rw [length_flat, List.length_take, List.length_drop, HR.out.2.2.2.1]; omega) (fun h0 => by rw [← hA, if_neg (by omega)]) (by have h6 := HR.out.1.from_.take ((g1.cols - (g1.at_.col + 1)) * 4); rw [← flat_take] at h6; exact h6) (by have := HR.out.2.2.1; rw [length_flat, List.length_take, List.length_drop, HR.out.2.2.2.1]; omega) (flat_one _) ?_; intro w4 hB4 hg4 hs4; have HB4 := Lib.hid hB4; clear hB4; have k4 : w4.cell? ⟨p, 4, none⟩ = some (.int .i64 g1.at_.col) := (hg4.cell_far ⟨p, 4, none⟩ hpl (fun e => hlp (Option.some.inj e).symm)).trans c4))
      all_goals go_wp2
      go_meet
      obtain ⟨hS1, hB, hsz, hll, hset⟩ := HR.out
      obtain ⟨hF, hfoot, hfl, hl⟩ := HFF.out
      obtain ⟨hI, hI'⟩ := HI.out
      have hk : ∀ k, k < w1.heap.size → k ≠ lb → w4.heap[k]? = w1.heap[k]? := fun k hk hn => hg4.block k hk (by intro e; cases e; exact hn rfl)
      have hM4 := hset w4 (g1.at_.col + 1) _ (by rw [List.length_take, List.length_drop, hll]; omega) HB4.out hk
      have e := shift_over l g1.at_.col (by omega)
      rw [hll] at e
      rw [e, hl] at hM4
      rw [HFIN.out] at hI' ⊢
      exact ⟨F1, ⟨hI', fun k hk => Nat.lt_of_lt_of_le (hF k hk) hg4.size, _, vt, vo, vp, bc, bt, bo, bp, rc, ro, rp, hM4, hfoot⟩, (Step.of_grown (F := F1) (w := w1) (w' := w4) ⟨hg4.os, hg4.tape, hg4.output, hg4.size, hg4.block⟩ (hfoot lb hfl))⟩
  case rest =>
  obtain ⟨F2, h2, s2⟩ := hcut
  have S2 := Lib.hid (S1.out.trans s2)
  clear s2 S1 H1 c20
  obtain ⟨g2, hg2⟩ : ∃ g2, g2 = g1.inserted := ⟨_, rfl⟩
  rw [← hg2] at h2
  have HG2 := Lib.hid (And.intro HG1.out hg2)
  clear hg2 HG1
  rename World => w2
  have H2 := Lib.hid h2
  clear h2
  go_upto_region 6 with fail
  go_cut [] from 5 (fun wx => GPart w2 p F2 (g2.setCell g2.at_.row g2.at_.col (g2.cell r)) vq wx)
  case first =>
    obtain ⟨hI, hF, vc, vt, vo, vp, bc, bt, bo, bp, rc, ro, rp, hM, hfoot⟩ := H2.out
    have hb := hM.blk
    have h2 := hI.r2
    have h3 := hI.c2
    have h4 := hI.row
    have h5 := hI.col
    have hI' := hI.setCell g2.at_.col hI.row (c := g2.cell r) ⟨hrune, hI.style⟩
    obtain ⟨b, o, cap, lb, lo, lc, cur, rfl, hcell, hlc, hll, hrow, hB, hsz, hbl, hlbl, hfl, hbne, hlp, hset⟩ := hM.rowOver hI h4
    have c2 := gc_cells hb
    have c3 := gc_row hb
    have c4 := gc_col hb
    have hpl := hb.lt
    have i1 : (0 : Int) ≤ (g2.at_.col : Int) := by omega
    have i2 : (g2.at_.col : Int) < (g2.cols : Int) := by omega
    have i4 : (0 : Int) ≤ (g2.at_.row : Int) := by omega
    have i5 : (g2.at_.row : Int) < (g2.rows : Int) := by omega
    have hbne' : ¬ lb = b := fun e => hbne e.symm
    have hz0' : lo + g2.at_.col * 4 < cur.size := by omega
    have hz1' : lo + g2.at_.col * 4 + 1 < cur.size := by omega
    have hz2' : lo + g2.at_.col * 4 + 2 < cur.size := by omega
    have hz3' : lo + g2.at_.col * 4 + 3 < cur.size := by omega
    have HR := Lib.hid (And.intro hb (And.intro hB (And.intro hsz (And.intro hll hset))))
    have HFF := Lib.hid (And.intro hF (And.intro hfoot hfl))
    have HI := Lib.hid (And.intro hI hI')
    clear hrow hset hsz hM hll hF hfoot hfl hb hB hI hI'
    go_region_held3 (fun w' => w'.cell? ⟨p, 2, none⟩ = some (.slice (some ⟨b, o, none⟩) g2.rows cap) ∧ w'.cell? ⟨p, 3, none⟩ = some (.int .i64 g2.at_.row) ∧ w'.cell? ⟨p, 4, none⟩ = some (.int .i64 g2.at_.col) ∧ w'.cell? ⟨b, o + g2.at_.row, none⟩ = some (.slice (some ⟨lb, lo, none⟩) g2.cols lc)) (go_keep) (first
      | (go_at_call 47; refine (cell_any (Blk.drew HR.out.1) r).mono ?_; rintro e w3 ⟨rfl, hb1⟩; have k2 : w3.cell? ⟨p, 2, none⟩ = some (.slice (some ⟨b, o, none⟩) g2.rows cap) := (hb1.cell (p := ⟨p, 2, none⟩) hpl).trans c2; have k3 : w3.cell? ⟨p, 3, none⟩ = some (.int .i64 g2.at_.row) := (hb1.cell (p := ⟨p, 3, none⟩) hpl).trans c3; have k4 : w3.cell? ⟨p, 4, none⟩ = some (.int .i64 g2.at_.col) := (hb1.cell (p := ⟨p, 4, none⟩) hpl).trans c4; have k5 : w3.cell? ⟨b, o + g2.at_.row, none⟩ = some (.slice (some ⟨lb, lo, none⟩) g2.cols lc) := (hb1.cell (p := ⟨b, o + g2.at_.row, none⟩) hbl).trans hcell; have B3 := Lib.hid (Blk.below (w := w2.drew) HR.out.2.1 hb1 hlbl); have q0 := (B3.out.cell _).trans (Array.getElem?_eq_getElem hz0'); have q1 := (B3.out.cell _).trans (Array.getElem?_eq_getElem hz1'); have q2 := (B3.out.cell _).trans (Array.getElem?_eq_getElem hz2'); have q3 := (B3.out.cell _).trans (Array.getElem?_eq_getElem hz3'); have r0 := B3.out.frozen (lo + g2.at_.col * 4); have r1 := B3.out.frozen (lo + g2.at_.col * 4 + 1); have r2 := B3.out.frozen (lo + g2.at_.col * 4 + 2); have r3 := B3.out.frozen (lo + g2.at_.col * 4 + 3)))
    all_goals go_wp2
    go_meet
    obtain ⟨hb, hB, hsz, hll, hset⟩ := HR.out
    obtain ⟨hF, hfoot, hfl⟩ := HFF.out
    obtain ⟨hI, hI'⟩ := HI.out
    have hon : On w3 _ lb 42 _ := (((((On.refl B3.out).set (lo + g2.at_.col * 4) (.int .i32 r)).set (lo + g2.at_.col * 4 + 1) (.int .i64 g2.at_.style.fg)).set (lo + g2.at_.col * 4 + 2) (.int .i64 g2.at_.style.bg)).set (lo + g2.at_.col * 4 + 3) (.int .i64 g2.at_.style.style))
    have hM4 := hset _ g2.at_.col [g2.cell r] (by simp; omega) hon.1 (fun k hk hn => (hon.2.block k (Nat.lt_of_lt_of_le hk hb1.size) (by intro e; cases e; exact hn rfl)).trans (hb1.block k hk))
    rw [over_one _ _ _ (by rw [hll]; exact h5)] at hM4
    exact ⟨F2, ⟨hI', fun k hk => Nat.lt_of_lt_of_le (hF k hk) (Nat.le_trans hb1.size hon.2.size), _, vt, vo, vp, bc, bt, bo, bp, rc, ro, rp, hM4, hfoot⟩, (Step.of_below (F := F2) (F1 := F2) (w := w2) (w1 := w3) ⟨hb1.os, hb1.tape, hb1.output, hb1.size, hb1.block⟩ (fun _ h => .inl h)).trans (Step.of_grown hon.2 (hfoot lb hfl))⟩
  case rest =>
  obtain ⟨F3, h3, s3⟩ := hcut
  have S3 := Lib.hid (S2.out.trans s3)
  clear s3 S2 H2
  obtain ⟨g3, hg3⟩ : ∃ g3, g3 = g2.setCell g2.at_.row g2.at_.col (g2.cell r) := ⟨_, rfl⟩
  rw [← hg3] at h3
  have hfin : g.print r = if g3.at_.col = g3.cols - 1 then { g3 with at_ := { g3.at_ with due := g3.wrap } } else { g3 with at_ := { g3.at_ with col := g3.at_.col + 1 } } := by
    rw [hg3, HG2.out.2, HG2.out.1]
    rfl
  have HFIN := Lib.hid hfin
  clear hfin hg3
  rename World => w3
  have H3 := Lib.hid h3
  obtain ⟨_, _, _, _, hb⟩ := h3.blk
  have c1 := gc_cols hb
  have c4 := gc_col hb
  have c5 := gc_due hb
  have c19 := gc_wrap hb
  have f4 := hb.frozen 4
  have f5 := hb.frozen 5
  have h5 := h3.1.col
  have h6 := h3.1.c2
  have h7 := h3.1.c1
  clear h3 hb
  have hw1 : IntKind.i64.wrap ((g3.cols : Int) - 1) = (g3.cols : Int) - 1 := IntWalk.i64_in _ (by omega)
  have hw2 : IntKind.i64.wrap ((g3.at_.col : Int) + 1) = (g3.at_.col : Int) + 1 := IntWalk.i64_in _ (by omega)
  by_cases hlast : g3.at_.col = g3.cols - 1
  · have hc : ((g3.at_.col : Int) == (g3.cols : Int) - 1) = true := by simp; omega
    have e := HFIN.out
    rw [if_pos hlast] at e
    have HE := Lib.hid e
    clear e
    go_wp2
    go_region
    go_wp2
    go_end0
    rw [HE.out]
    have h8 := H3.out.scalar (w' := (w3.setCell ⟨p, 5, none⟩ (.bool g3.wrap)).drew) (H3.out.1.withDue g3.wrap) (fun vc vt vo vp hb => on_ex ⟨_, ((On.refl hb).set 5 _).drew, by simp [gcells]⟩) rfl rfl rfl rfl
    exact ⟨F3, rfl, h8.1, S3.out.trans h8.2⟩
  · have hc : ((g3.at_.col : Int) == (g3.cols : Int) - 1) = false := by simp; omega
    have e := HFIN.out
    rw [if_neg hlast] at e
    have HE := Lib.hid e
    clear e
    go_wp2
    go_region
    go_wp2
    go_end0
    rw [HE.out]
    have h8 := H3.out.scalar (g' := { g3 with at_ := { g3.at_ with col := g3.at_.col + 1 } }) (w' := (w3.setCell ⟨p, 4, none⟩ (.int .i64 ((g3.at_.col : Int) + 1))).drew) { H3.out.1 with col := by show g3.at_.col + 1 < g3.cols; omega } (fun vc vt vo vp hb => on_ex ⟨_, ((On.refl hb).set 4 _).drew, by simp [gcells]⟩) rfl rfl rfl rfl
    exact ⟨F3, rfl, h8.1, S3.out.trans h8.2⟩

end Go.Proofs.YtdbepelcgmnbbaaDoor
