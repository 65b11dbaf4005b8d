/- The grid's methods that turn numbers alone: cell, move, style. -/
import Derived.Test.YtdbepelcgmnbbaaDoorGridAt
import Derived.RegionTactic
import Derived.BigRegion
import Derived.Laws.BitsAllLaws
namespace Go.Proofs.YtdbepelcgmnbbaaDoor
open Go Go.RowKit

set_option maxRecDepth 20000 in
set_option maxHeartbeats 400000 in
theorem cell_any {w : World} {p : Nat} {g : PG.G} {vc vt vo vp vq : Value} (hb : Blk w p 52 (gcells g vc vt vo vp vq)) (r : Int) :
    Calls Tryd.prog 47 #[.pointer (some ⟨p, 0, none⟩), .int .i32 r] w fun e w' => e = .returned (.agg #[.int .i32 r, .int .i64 g.at_.style.fg, .int .i64 g.at_.style.bg, .int .i64 g.at_.style.style]) ∧ Below w.heap.size w w' := by
  have hp := hb.lt
  have c6 := gc_rune hb
  have c7 := gc_fg hb
  have c8 := gc_bg hb
  have c9 := gc_sty hb
  go_enter Tryd.func47, Tryd.ntmps47
  go_wp2
  exact bodyPost_ret (v := .agg #[.int .i32 r, .int .i64 g.at_.style.fg, .int .i64 g.at_.style.bg, .int .i64 g.at_.style.style]) (by simp [results, Tryd.results47, go_sem]) rfl ⟨rfl, ((Below.refl _ _).alloc (Nat.le_refl _) _).alloc (by simp) _⟩

theorem clamp_eq (x : Int) (n : Nat) : (if (n : Int) - 1 < if x < 0 then 0 else x then (n : Int) - 1 else if x < 0 then 0 else x) = min (max x 0) ((n : Int) - 1) := by
  split <;> split <;> omega

set_option maxRecDepth 20000 in
set_option maxHeartbeats 400000 in
theorem move_any {w : World} {p : Nat} {F : Nat → Prop} {g : PG.G} {vq : Value} (h : GridAt w p F g vq) (row col : Int) (hr : -100000 ≤ row ∧ row ≤ 100000) (hc : -100000 ≤ col ∧ col ≤ 100000) :
    Calls Tryd.prog 48 #[.pointer (some ⟨p, 0, none⟩), .int .i64 row, .int .i64 col] w (GPost w p F (g.move row col) vq) := by
  obtain ⟨hI, hF, vc, vt, vo, vp, bc, bt, bo, bp, rc, ro, rp, hM, hfoot⟩ := h
  have hb := hM.blk
  have c0 := gc_rows hb
  have c1 := gc_cols hb
  have c3 := gc_row hb
  have c4 := gc_col hb
  have c5 := gc_due hb
  have f3 := hb.frozen 3
  have f4 := hb.frozen 4
  have f5 := hb.frozen 5
  have h1 := hI.r1
  have h2 := hI.r2
  have h3 := hI.c1
  have h4 := hI.c2
  go_enter Tryd.func48, Tryd.ntmps48
  go_wp2
  go_region
  all_goals go_end0
  refine gpost_scalar (hI.move row col) hF hM hfoot (On.eq_ ((((On.refl hb).set 3 _).set 4 _).set 5 _).drew ?_) rfl rfl rfl rfl
  have e1 : (((min (max row 0) ((g.rows : Int) - 1)).toNat : Nat) : Int) = min (max row 0) ((g.rows : Int) - 1) := by omega
  have e2 : (((min (max col 0) ((g.cols : Int) - 1)).toNat : Nat) : Int) = min (max col 0) ((g.cols : Int) - 1) := by omega
  rw [clamp_eq, clamp_eq]
  simp [gcells, PG.G.move, e1, e2]

theorem bits8 {a : Int} (h : 0 ≤ a ∧ a ≤ 7) : bits .or .i64 a 1 = PG.G.orBits a 1 ∧ bits .or .i64 a 2 = PG.G.orBits a 2 ∧ bits .or .i64 a 4 = PG.G.orBits a 4 ∧
    bits .andNot .i64 a 1 = PG.G.andNotBits a 1 ∧ bits .andNot .i64 a 2 = PG.G.andNotBits a 2 ∧ bits .andNot .i64 a 4 = PG.G.andNotBits a 4 := by
  have h8 : a = 0 ∨ a = 1 ∨ a = 2 ∨ a = 3 ∨ a = 4 ∨ a = 5 ∨ a = 6 ∨ a = 7 := by omega
  rcases h8 with rfl | rfl | rfl | rfl | rfl | rfl | rfl | rfl <;> decide

set_option maxRecDepth 20000 in
set_option maxHeartbeats 2000000 in
theorem style_any {w : World} {p : Nat} {F : Nat → Prop} {g : PG.G} {vq : Value} (h : GridAt w p F g vq) (k : Int) (hk : -100000 ≤ k ∧ k ≤ 100000) :
    Calls Tryd.prog 52 #[.pointer (some ⟨p, 0, none⟩), .int .i64 k] w (GPost w p F (g.style k) vq) := by
  obtain ⟨hI, hF, vc, vt, vo, vp, bc, bt, bo, bp, rc, ro, rp, hM, hfoot⟩ := h
  have hb := hM.blk
  have c6 := gc_rune hb
  have c7 := gc_fg hb
  have c8 := gc_bg hb
  have c9 := gc_sty hb
  have f6 := hb.frozen 6
  have f7 := hb.frozen 7
  have f8 := hb.frozen 8
  have f9 := hb.frozen 9
  have hB := Lib.hid (bits8 hI.style.2.2)
  have hI' := hI.styled k
  go_enter Tryd.func52, Tryd.ntmps52
  go_wp2
  all_goals go_end0
  all_goals
    obtain ⟨b1, b2, b3, b4, b5, b6⟩ := hB.out
    refine gpost_scalar hI' hF hM hfoot (on_ex ?_) rfl rfl rfl rfl
    apply Exists.intro
    apply And.intro
    · repeat (first | with_reducible apply On.set | with_reducible apply On.drew)
      exact On.refl hb
    · simp only [beq_iff_eq, beq_eq_false_iff_ne, ne_eq] at *
      simp only [gcells, PG.G.style, PG.G.styled]
      repeat (first | rw [if_pos (by omega)] | rw [if_neg (by omega)])
      first | done | simp [PG.zeroCell, b1, b2, b3, b4, b5, b6]

end Go.Proofs.YtdbepelcgmnbbaaDoor
