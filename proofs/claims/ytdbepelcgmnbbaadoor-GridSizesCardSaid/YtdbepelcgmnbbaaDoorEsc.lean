/- An escape; a new screen; an act. -/
import Derived.Test.YtdbepelcgmnbbaaDoorCsi
import Derived.Test.YtdbepelcgmnbbaaDoorReset
namespace Go.Proofs.YtdbepelcgmnbbaaDoor
open Go Go.RowKit

theorem On.trans {w W W' : World} {p : Nat} {t : TypeId} {cs cs' : Array Value} (h : On w W p t cs) (k : On W W' p t cs') : On w W' p t cs' :=
  ⟨k.1, k.2.os.trans h.2.os, k.2.tape.trans h.2.tape, k.2.output.trans h.2.output, Nat.le_trans h.2.size k.2.size, fun b hb hn => (k.2.block b (Nat.lt_of_lt_of_le hb h.2.size) hn).trans (h.2.block b hb hn)⟩

set_option maxRecDepth 20000 in
set_option maxHeartbeats 400000 in
theorem move_raw {w : World} {p : Nat} {g : PG.G} {vc vt vo vp vq : Value} (hb : Blk w p 52 (gcells g vc vt vo vp vq)) (h1 : 1 ≤ g.rows) (h2 : g.rows ≤ 60) (h3 : 1 ≤ g.cols) (h4 : g.cols ≤ 120) (row col : Int) (hr : -100000 ≤ row ∧ row ≤ 100000) (hc : -100000 ≤ col ∧ col ≤ 100000) :
    Calls Tryd.prog 48 #[.pointer (some ⟨p, 0, none⟩), .int .i64 row, .int .i64 col] w fun e w' => e = .returned (.tuple #[]) ∧ On w w' p 52 (gcells (g.move row col) vc vt vo vp vq) := by
  have c0 := gc_rows hb
  have c1 := gc_cols hb
  have c3 := gc_row hb
  have c4 := gc_col hb
  have c5 := gc_due hb
  have f3 := hb.frozen 3
  have f4 := hb.frozen 4
  have f5 := hb.frozen 5
  go_enter Tryd.func48, Tryd.ntmps48
  go_wp2
  go_region
  all_goals go_end0
  refine ⟨rfl, On.eq_ ((((On.refl hb).set 3 _).set 4 _).set 5 _).drew ?_⟩
  have e1 : (((min (max row 0) ((g.rows : Int) - 1)).toNat : Nat) : Int) = min (max row 0) ((g.rows : Int) - 1) := by omega
  have e2 : (((min (max col 0) ((g.cols : Int) - 1)).toNat : Nat) : Int) = min (max col 0) ((g.cols : Int) - 1) := by omega
  rw [clamp_eq, clamp_eq]
  simp [gcells, PG.G.move, e1, e2]

set_option maxRecDepth 20000 in
set_option maxHeartbeats 4000000 in
theorem esc_any {w : World} {p : Nat} {F : Nat → Prop} {g : PG.G} {aq : Option Addr} (h : GridAt w p F g (.pointer aq)) (r : Int) :
    Calls Tryd.prog 32 #[.pointer (some ⟨p, 0, none⟩), .int .i32 r] w (GPost w p F (g.esc r) (.pointer aq)) := by
  have hIe := h.1.esc r
  have hr2 := h.1.r2
  have hc2 := h.1.c2
  have hrow := h.1.row
  have hcol := h.1.col
  have hsr := h.1.srow
  have hsc := h.1.scol
  have htop := h.1.top
  have hbot := h.1.bottom
  have H := Lib.hid h
  have HIE := Lib.hid hIe
  obtain ⟨vc, vt, vo, vp, hb⟩ := h.blk
  have HB := Lib.hid hb
  have c3 := gc_row hb
  have c4 := gc_col hb
  have c5 := gc_due hb
  have c6 := gc_rune hb
  have c7 := gc_fg hb
  have c8 := gc_bg hb
  have c9 := gc_sty hb
  have c10 := gc_srow hb
  have c11 := gc_scol hb
  have c12 := gc_sdue hb
  have c13 := gc_srune hb
  have c14 := gc_sfg hb
  have c15 := gc_sbg hb
  have c16 := gc_ssty hb
  have c17 := gc_top hb
  have f3 := hb.frozen 3
  have f4 := hb.frozen 4
  have f5 := hb.frozen 5
  have f6 := hb.frozen 6
  have f7 := hb.frozen 7
  have f8 := hb.frozen 8
  have f9 := hb.frozen 9
  have f10 := hb.frozen 10
  have f11 := hb.frozen 11
  have f12 := hb.frozen 12
  have f13 := hb.frozen 13
  have f14 := hb.frozen 14
  have f15 := hb.frozen 15
  have f16 := hb.frozen 16
  clear h hIe hb
  have keep : ∀ (g' : PG.G) (W : World), g.esc r = g' → (∀ vc vt vo vp, Blk w p 52 (gcells g vc vt vo vp (.pointer aq)) → On w W p 52 (gcells g' vc vt vo vp (.pointer aq))) → g'.cells = g.cells → g'.tabs = g.tabs → g'.other = g.other → g'.past = g.past →
      GPost w p F (g.esc r) (.pointer aq) (.returned (.tuple #[])) W := by
    intro g' W e ho e1 e2 e3 e4
    have h8 := H.out.scalar (w' := W) (e ▸ HIE.out) ho e1 e2 e3 e4
    rw [e]
    exact ⟨F, rfl, h8.1, h8.2⟩
  have KEEP := Lib.hid keep
  clear keep
  by_cases h68 : r = 68
  · subst h68
    have e : g.index = g.esc 68 := by unfold PG.G.esc; simp
    have HE := Lib.hid e
    clear e
    go_enter Tryd.func32, Tryd.ntmps32
    go_wp2_with fail
    refine (index_any (by exact H.out)).mono ?_
    rintro e w2 ⟨F2, rfl, hG2, hst2⟩
    go_wp2
    go_end0
    exact GPost.cast HE.out ⟨F2, rfl, hG2, hst2⟩
  by_cases h69 : r = 69
  · subst h69
    have e : PG.G.index { g with at_ := { g.at_ with col := 0 } } = g.esc 69 := by unfold PG.G.esc; simp
    have HE := Lib.hid e
    clear e
    go_enter Tryd.func32, Tryd.ntmps32
    go_wp2_with fail
    have h1 := H.out.scalar (w' := w.setCell ⟨p, 4, none⟩ (.int .i64 0)) (g' := { g with at_ := { g.at_ with col := 0 } }) { H.out.1 with col := by have := H.out.1.c1; show 0 < g.cols; omega } (fun vc vt vo vp hb => on_ex ⟨_, (On.refl hb).set 4 _, by simp [gcells]⟩) rfl rfl rfl rfl
    refine (index_any (by exact h1.1)).mono ?_
    rintro e w2 ⟨F2, rfl, hG2, hst2⟩
    go_wp2
    go_end0
    exact GPost.cast HE.out ⟨F2, rfl, hG2, h1.2.trans hst2⟩
  by_cases h77 : r = 77
  · subst h77
    have h1 := H.out.scalar (w' := w.setCell ⟨p, 5, none⟩ (.bool false)) (g' := { g with at_ := { g.at_ with due := false } }) (H.out.1.withDue false) (fun vc vt vo vp hb => on_ex ⟨_, (On.refl hb).set 5 _, by simp [gcells]⟩) rfl rfl rfl rfl
    have H1 := Lib.hid h1
    clear h1
    by_cases ht : g.at_.row = g.top
    · have hc1 : ((g.at_.row : Int) == (g.top : Int)) = true := by rw [ht]; simp
      have e : PG.G.down { g with at_ := { g.at_ with due := false } } 1 = g.esc 77 := by unfold PG.G.esc; simp [ht]
      have HE := Lib.hid e
      clear e ht
      go_enter Tryd.func32, Tryd.ntmps32
      go_wp2_with fail
      go_region
      go_wp2_with fail
      refine (down_any (by exact H1.out.1.drew) 1 (by omega)).mono ?_
      rintro e w2 ⟨F2, rfl, hG2, hst2⟩
      go_wp2
      go_end0
      exact GPost.cast HE.out ⟨F2, rfl, hG2, H1.out.2.drew.trans hst2⟩
    · have hc1 : ((g.at_.row : Int) == (g.top : Int)) = false := by simp; omega
      have e : PG.G.move { g with at_ := { g.at_ with due := false } } ((g.at_.row : Int) - 1) g.at_.col = g.esc 77 := by unfold PG.G.esc; simp [ht]
      have HE := Lib.hid e
      clear e ht
      have hw1 : IntKind.i64.wrap ((g.at_.row : Int) - 1) = (g.at_.row : Int) - 1 := IntWalk.i64_in _ (by omega)
      go_enter Tryd.func32, Tryd.ntmps32
      go_wp2_with fail
      go_region
      go_wp2_with fail
      obtain ⟨W1, hW1⟩ : ∃ W1, W1 = (w.setCell ⟨p, 5, none⟩ (.bool false)).drew := ⟨_, rfl⟩
      rw [← hW1]
      have hg1 : GridAt W1 p F { g with at_ := { g.at_ with due := false } } (.pointer aq) := by rw [hW1]; exact H1.out.1.drew
      have hs1 : Step F F w W1 := by rw [hW1]; exact H1.out.2.drew
      have HG1 := Lib.hid (And.intro hg1 hs1)
      obtain ⟨_, _, _, _, hb1⟩ := hg1.blk
      have k3 : W1.cell? ⟨p, 3, none⟩ = some (.int .i64 g.at_.row) := gc_row (g := { g with at_ := { g.at_ with due := false } }) hb1
      have k4 : W1.cell? ⟨p, 4, none⟩ = some (.int .i64 g.at_.col) := gc_col (g := { g with at_ := { g.at_ with due := false } }) hb1
      clear hg1 hs1 hb1 hW1
      go_still_tail 12, (by kernel_rfl)
      change wpList _ _ _ _ _ W1.drew
      go_wp2_with fail
      refine (move_any (by exact HG1.out.1.drew) ((g.at_.row : Int) - 1) g.at_.col (by omega) (by omega)).mono ?_
      rintro e w2 ⟨F2, rfl, hG2, hst2⟩
      go_wp2
      go_end0
      exact GPost.cast HE.out ⟨F2, rfl, hG2, HG1.out.2.drew.trans hst2⟩
  by_cases h55 : r = 55
  · subst h55
    go_enter Tryd.func32, Tryd.ntmps32
    go_wp2
    go_end0
    refine KEEP.out { g with saved := g.at_ } _ (by unfold PG.G.esc; simp) (fun vc vt vo vp hb => ?_) rfl rfl rfl rfl
    (refine on_ex ?_; apply Exists.intro; apply And.intro; (repeat (first | with_reducible apply On.set | with_reducible apply On.drew)); exact On.refl hb; simp [gcells, PG.zeroCur, PG.zeroCell])
  by_cases h56 : r = 56
  · subst h56
    go_enter Tryd.func32, Tryd.ntmps32
    go_wp2_with fail
    obtain ⟨W1, hW1⟩ : ∃ W1, W1 = ((((((w.setCell ⟨p, 3, none⟩ (.int .i64 g.saved.row)).setCell ⟨p, 4, none⟩ (.int .i64 g.saved.col)).setCell ⟨p, 5, none⟩ (.bool g.saved.due)).setCell ⟨p, 6, none⟩ (.int .i32 g.saved.style.rune)).setCell ⟨p, 7, none⟩ (.int .i64 g.saved.style.fg)).setCell ⟨p, 8, none⟩ (.int .i64 g.saved.style.bg)).setCell ⟨p, 9, none⟩ (.int .i64 g.saved.style.style) := ⟨_, rfl⟩
    rw [← hW1]
    have on1 : ∀ vc vt vo vp, Blk w p 52 (gcells g vc vt vo vp (.pointer aq)) → On w W1 p 52 (gcells { g with at_ := g.saved } vc vt vo vp (.pointer aq)) := by
      intro vc vt vo vp hb
      rw [hW1]
      exact on_ex ⟨_, (((((((On.refl hb).set 3 _).set 4 _).set 5 _).set 6 _).set 7 _).set 8 _).set 9 _, by simp [gcells]⟩
    have ON1 := Lib.hid on1
    have hB1 := (on1 _ _ _ _ HB.out).1
    have k3 : W1.cell? ⟨p, 3, none⟩ = some (.int .i64 g.saved.row) := gc_row (g := { g with at_ := g.saved }) hB1
    have k4 : W1.cell? ⟨p, 4, none⟩ = some (.int .i64 g.saved.col) := gc_col (g := { g with at_ := g.saved }) hB1
    clear hW1 on1 hB1 c3 c4 c5 c6 c7 c8 c9 c10 c11 c12 c13 c14 c15 c16 c17 f3 f4 f5 f6 f7 f8 f9 f10 f11 f12 f13 f14 f15 f16
    go_still_tail 11, (by kernel_rfl)
    change wpList _ _ _ _ _ W1.drew
    go_wp2_with fail
    refine (move_raw (g := { g with at_ := g.saved }) (by exact (ON1.out _ _ _ _ HB.out).1.drew) H.out.1.r1 H.out.1.r2 H.out.1.c1 H.out.1.c2 g.saved.row g.saved.col (by omega) (by omega)).mono ?_
    rintro e w2 ⟨rfl, hon2⟩
    have k5 : w2.cell? ⟨p, 5, none⟩ = some (.bool (PG.G.move { g with at_ := g.saved } g.saved.row g.saved.col).at_.due) := gc_due hon2.1
    have l5 := hon2.1.frozen 5
    have HON2 := Lib.hid hon2
    clear hon2
    go_wp2
    go_end0
    refine KEEP.out { PG.G.move { g with at_ := g.saved } g.saved.row g.saved.col with at_ := { (PG.G.move { g with at_ := g.saved } g.saved.row g.saved.col).at_ with due := g.saved.due } } _ (by unfold PG.G.esc; simp) (fun vc' vt' vo' vp' hb => ?_) rfl rfl rfl rfl
    have hcs := hb.eq_ HB.out
    have e1 : vc' = vc := by have := congrArg (fun a : Array Value => a[2]?) hcs; simpa [gcells] using this
    have e2 : vt' = vt := by have := congrArg (fun a : Array Value => a[22]?) hcs; simpa [gcells] using this
    have e3 : vo' = vo := by have := congrArg (fun a : Array Value => a[23]?) hcs; simpa [gcells] using this
    have e4 : vp' = vp := by have := congrArg (fun a : Array Value => a[31]?) hcs; simpa [gcells] using this
    subst e1 e2 e3 e4
    have h8 := ((ON1.out _ _ _ _ hb).drew.trans HON2.out).set 5 (.bool g.saved.due)
    refine h8.eq_ ?_
    simp [gcells]
  by_cases h99 : r = 99
  · subst h99
    obtain ⟨hI, hF, vc, vt, vo, vp, bc, bt, bo, bp, rc, ro, rp, hM, hfoot⟩ := H.out
    have e : PG.fresh g.rows g.cols g.past = g.esc 99 := by unfold PG.G.esc; simp
    have HE := Lib.hid e
    have HM := Lib.hid (And.intro hM (And.intro hI hfoot))
    clear e hM hI hF hfoot
    go_enter Tryd.func32, Tryd.ntmps32
    go_wp2_with fail
    refine (reset_mem HM.out.1.blk HM.out.2.1.r1 HM.out.2.1.r2 HM.out.2.1.c1 HM.out.2.1.c2 HM.out.1.past HM.out.2.1.past ?_).mono ?_
    · have := HM.out.1.rws
      rw [List.nodup_append] at this
      have := this.2.1
      rw [List.nodup_append] at this
      exact this.2.1
    rintro e w2 ⟨F2, rfl, hG2, hst2⟩
    go_wp2
    go_end0
    refine GPost.cast HE.out ⟨F2, rfl, hG2, hst2.weaken fun b hb => HM.out.2.2 b ?_⟩
    rcases hb with hb | hb | hb
    · exact .inl hb
    · exact .inr (.inr (.inr (.inr (.inl hb))))
    · exact .inr (.inr (.inr (.inr (.inr (.inr (.inr hb))))))
  by_cases h72 : r = 72
  · subst h72
    obtain ⟨hI, hF, vc, vt, vo, vp, bc, bt, bo, bp, rc, ro, rp, hM, hfoot⟩ := H.out
    have hb := hM.blk
    have htl := hI.tabs
    have d4 := gc_col hb
    have hT := hM.tabs
    rw [htl] at hT
    obtain ⟨tb, to, tc, cur, rfl, rfl, hB, htc, htsz, _⟩ := hT.some_ (hT.ob_ (by omega))
    have c22 := gc_tabs hb
    have f22 := hb.frozen 22
    have i1 : (0 : Int) ≤ (g.at_.col : Int) := by omega
    have i2 : (g.at_.col : Int) < (g.cols : Int) := by omega
    have ct := (hB.cell (to + g.at_.col)).trans (Array.getElem?_eq_getElem (by omega))
    have ft := hB.frozen (to + g.at_.col)
    have e : g.esc 72 = { g with tabs := g.tabs.set g.at_.col true } := by unfold PG.G.esc; simp
    have HE := Lib.hid (And.intro e (And.intro hM (And.intro hT (And.intro hB (And.intro hF (And.intro hfoot htl))))))
    clear e hM hT hF hfoot hI
    go_enter Tryd.func32, Tryd.ntmps32
    go_wp2
    go_region
    go_wp2
    go_end0
    obtain ⟨e, hM, hT, hB, hF, hfoot, htl⟩ := HE.out
    have hI' := HIE.out
    rw [e] at hI' ⊢
    have hB2 : Blk (w.setCell ⟨tb, to + g.at_.col, none⟩ (.bool true)).drew tb 4 (laidOver cur (to + g.at_.col) [.bool true]) := (hB.set_ (to + g.at_.col) (.bool true)).drew
    have hgr : w.grownBy (w.setCell ⟨tb, to + g.at_.col, none⟩ (.bool true)).drew (some tb) := ((On.refl hB).set (to + g.at_.col) (.bool true)).drew.2
    have hT2 := hT.laid (cs := [.bool true]) hB g.at_.col (by simp [htl]; exact hcol) hB2
    rw [show over (g.tabs.map Value.bool) g.at_.col [.bool true] = (g.tabs.set g.at_.col true).map Value.bool by
      rw [List.map_set]; unfold over; rw [List.set_eq_take_append_cons_drop, if_pos (by simp [htl]; exact hcol)]; simp] at hT2
    have htp : tb ≠ p := fun e => by subst e; exact (hb.ne_ hB (by decide)) rfl
    have hM2 := hM.newtabs (g' := { g with tabs := g.tabs.set g.at_.col true }) (hb.same (hgr.block p hb.lt (fun e => htp (Option.some.inj e).symm))) (fun b hb' _ hn => hgr.block b hb' (fun e => hn (by rw [e]))) (by rw [List.length_set, htl]; exact hT2) rfl rfl rfl
    exact ⟨F, rfl, ⟨hI', fun b hb => Nat.lt_of_lt_of_le (hF b hb) hgr.size, _, _, _, _, _, _, _, _, _, _, _, hM2, hfoot⟩, Step.of_grown hgr (hfoot tb (.inr (.inr (.inl rfl))))⟩
  · have b68 : (r == 68) = false := by simpa using h68
    have b69 : (r == 69) = false := by simpa using h69
    have b77 : (r == 77) = false := by simpa using h77
    have b55 : (r == 55) = false := by simpa using h55
    have b56 : (r == 56) = false := by simpa using h56
    have b99 : (r == 99) = false := by simpa using h99
    have b72 : (r == 72) = false := by simpa using h72
    go_enter Tryd.func32, Tryd.ntmps32
    go_wp2
    go_end0
    refine KEEP.out g _ (by unfold PG.G.esc; simp [h68, h69, h77, h55, h56, h99, h72]) (fun vc vt vo vp hb => On.refl hb) rfl rfl rfl rfl

end Go.Proofs.YtdbepelcgmnbbaaDoor
