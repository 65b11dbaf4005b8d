/- A screen with its parser: what its methods leave. -/
import Derived.Test.YtdbepelcgmnbbaaDoorScreen
import Derived.Test.YtdbepelcgmnbbaaDoorHand
import Derived.KernelRfl
import Derived.Lib.SlBytesConst
namespace Go.Proofs.YtdbepelcgmnbbaaDoor
open Go Go.RowKit

theorem TermAt.grid {w : World} {p : Nat} {F : Nat → Prop} {g : PG.G} {s : PV.P} {held : List UInt8} (h : TermAt w p F g s held) : ∃ q Fg, GridAt w p Fg g (.pointer (some ⟨q, 0, none⟩)) := by
  obtain ⟨q, Fg, Fq, h1, _⟩ := h
  exact ⟨q, Fg, h1⟩
theorem TermAt.inv {w : World} {p : Nat} {F : Nat → Prop} {g : PG.G} {s : PV.P} {held : List UInt8} (h : TermAt w p F g s held) : g.Inv := by
  obtain ⟨q, Fg, Fq, h1, _⟩ := h
  exact h1.1
theorem TermAt.lt {w : World} {p : Nat} {F : Nat → Prop} {g : PG.G} {s : PV.P} {held : List UInt8} (h : TermAt w p F g s held) : ∀ b, F b → b < w.heap.size := by
  obtain ⟨q, Fg, Fq, h1, h2, h3, h4, h5, h6⟩ := h
  exact h6
theorem TermAt.screen {w : World} {p : Nat} {F : Nat → Prop} {g : PG.G} {s : PV.P} {held : List UInt8} (h : TermAt w p F g s held) : Calls Tryd.prog 12 #[.pointer (some ⟨p, 0, none⟩)] w (ScreenPost w g) := by
  obtain ⟨q, Fg, h1⟩ := h.grid
  exact screen_any h1
theorem TermAt.past {w : World} {p : Nat} {F : Nat → Prop} {g : PG.G} {s : PV.P} {held : List UInt8} (h : TermAt w p F g s held) : Calls Tryd.prog 13 #[.pointer (some ⟨p, 0, none⟩)] w (NewRows w g.past) := by
  obtain ⟨q, Fg, h1⟩ := h.grid
  exact past_any h1
theorem TermAt.line {w : World} {p : Nat} {F : Nat → Prop} {g : PG.G} {s : PV.P} {held : List UInt8} (h : TermAt w p F g s held) (i : Nat) (hi : i < g.rows) :
    Calls Tryd.prog 17 #[.pointer (some ⟨p, 0, none⟩), .int .i64 i] w fun e w' => e = .returned (.string ⟨(lineText (g.cells.getD i [])).toArray⟩) ∧ Below w.heap.size w w' := by
  obtain ⟨q, Fg, h1⟩ := h.grid
  exact gLine_any h1 i hi

def SizePost (w : World) (p : Nat) (F : Nat → Prop) (g : PG.G) (s : PV.P) (held : List UInt8) (e : Ending) (w' : World) : Prop := ∃ F', e = .returned (.int .i64 0) ∧ TermAt w' p F' g s held ∧ Step F F' w w'
theorem TermAt.resize {w : World} {p : Nat} {F : Nat → Prop} {g : PG.G} {s : PV.P} {held : List UInt8} (h : TermAt w p F g s held) (rows cols : Nat) (h1 : 1 ≤ rows) (h2 : rows ≤ 60) (h3 : 1 ≤ cols) (h4 : cols ≤ 120) :
    Calls Tryd.prog 11 #[.pointer (some ⟨p, 0, none⟩), .int .i64 rows, .int .i64 cols] w (SizePost w p F (g.resize rows cols) s held) := by
  obtain ⟨q, Fg, Fq, a1, a2, a3, a4, a5, a6⟩ := h
  refine (resize_any a1 rows cols h1 h2 h3 h4).mono ?_
  rintro e w1 ⟨F1, rfl, b1, b2⟩
  have hq := a2.2.1
  refine ⟨fun b => F1 b ∨ Fq b, rfl, ⟨q, F1, Fq, b1, a2.keep b2 (fun b hb hg => a3 b hg hb), fun b hb hn => ?_, fun b hb => .inl hb, fun b hb => .inr hb, fun b hb => ?_⟩, ⟨b2.os, b2.tape, b2.output, b2.size, (b2.weaken a4).block, fun b hb => ?_⟩⟩
  · rcases b2.sub b hb with h | h
    · exact a3 b h hn
    · have := hq b hn; omega
  · rcases hb with h | h
    · exact b1.2.1 b h
    · exact Nat.lt_of_lt_of_le (hq b h) b2.size
  · rcases hb with h | h
    · rcases b2.sub b h with h | h
      · exact .inl (a4 b h)
      · exact .inr h
    · exact .inl (a5 b h)

end Go.Proofs.YtdbepelcgmnbbaaDoor

namespace Go.Proofs.YtdbepelcgmnbbaaDoor
open Go Go.RowKit

def K0 : PT := PT.new 2 3
def K1 : PT := K0.write [97, 98, 99, 100]
def K2 : PT := K0.write [97, 13, 10, 98, 13, 10, 99]
theorem K1_0 : lineText (K1.g.cells.getD 0 []) = [97, 98, 99] := by kernel_rfl
theorem K1_1 : lineText (K1.g.cells.getD 1 []) = [100] := by kernel_rfl
theorem K1_r : K1.g.at_.row = 1 := by kernel_rfl
theorem K1_c : K1.g.at_.col = 1 := by kernel_rfl
theorem K1_cols : K1.g.cols = 3 := by kernel_rfl
theorem K1_hid : K1.g.hidden = false := by kernel_rfl
theorem K1_rows : K1.g.rows = 2 := by kernel_rfl
theorem K2_rows : K2.g.rows = 2 := by kernel_rfl
theorem K2_0 : lineText (K2.g.cells.getD 0 []) = [98] := by kernel_rfl
theorem K2_1 : lineText (K2.g.cells.getD 1 []) = [99] := by kernel_rfl
theorem K2_p : K2.g.past.length = 1 := by kernel_rfl

set_option maxRecDepth 20000 in
set_option maxHeartbeats 4000000 in
theorem known_any {w : World} (hT : Lib.Utf8Tabs 2 3 w) : Calls Tryd.prog 7 #[] w fun e w' => e = .returned (.bool true) ∧ Below w.heap.size w w' := by
  have HT := Lib.hid hT
  clear hT
  go_enter Tryd.func7, Tryd.ntmps7
  go_wp2_with fail
  refine (gNew_any w 2 3 (by omega) (by omega) (by omega) (by omega)).mono ?_
  rintro e w1 ⟨p1, F1, rfl, t1, f1, b1⟩
  have H1 := Lib.hid (And.intro t1 (And.intro f1 b1))
  clear t1 f1 b1
  go_wp2_with fail
  refine (gNew_any w1 2 3 (by omega) (by omega) (by omega) (by omega)).mono ?_
  rintro e w2 ⟨p2, F2, rfl, t2, f2, b2⟩
  have H2 := Lib.hid (And.intro t2 (And.intro f2 b2))
  clear t2 f2 b2
  have kc := fun (w : World) (C : Array Value) (n c : Nat) => Lib.run_convert_bytes_const (P := Tryd.prog) w 23 5 C n c Tryd.underlying23 Tryd.underlying5
  go_wp2_with fail
  obtain ⟨W2, hW2⟩ : ∃ W, W = w2.alloc (.cells #[.int .u8 97, .int .u8 98, .int .u8 99, .int .u8 100] 5 (4, 5)) := ⟨_, rfl⟩
  have a2 : Below w2.heap.size w2 W2 := by rw [hW2]; exact (Below.refl _ w2).alloc (Nat.le_refl _) _
  have cf2 : CellsFrom W2 (some ⟨w2.heap.size, 0, none⟩) (([97, 98, 99, 100] : List UInt8).map bval) := .inr ⟨_, rfl, fun j v hj => by
    rw [hW2, Addr.add_lit, Nat.zero_add]
    refine (World.cell?_alloc_mark w2 _ _ _ j).trans ?_
    rw [List.getElem?_toArray]
    exact hj⟩
  have b12 : Below w.heap.size w w2 := H1.out.2.2.trans (H2.out.2.2.mono H1.out.2.2.size)
  have b02 : Below w.heap.size w W2 := b12.trans (a2.mono b12.size)
  have t1 : TermAt W2 p1 F1 K0.g K0.s K0.held := ((H1.out.1.below H2.out.2.2).below a2)
  have t2 : TermAt W2 p2 F2 K0.g K0.s K0.held := H2.out.1.below a2
  have f2 : ∀ b, F2 b → ¬ F1 b := fun b h h1 => by have := H2.out.2.1 b h; have := H1.out.1.lt b h1; omega
  have g2 : ∀ b, F2 b → w.heap.size ≤ b := fun b h => Nat.le_trans H1.out.2.2.size (H2.out.2.1 b h)
  have hc1 := write_any (tabs_below HT.out b02) t1 [97, 98, 99, 100] _ 4 cf2 (fun e => by cases e) (by decide)
  rw [← hW2]
  have HB := Lib.hid (And.intro b02 (And.intro t2 (And.intro f2 (And.intro g2 hc1))))
  clear a2 cf2 b12 b02 t1 t2 f2 g2 hc1 hW2
  refine (HB.out.2.2.2.2).mono ?_
  rintro e w3 ⟨F1', rfl, t1, s1⟩
  have H3 := Lib.hid (And.intro t1 s1)
  clear t1 s1
  go_wp2_with fail
  obtain ⟨W3, hW3⟩ : ∃ W, W = w3.alloc (.cells #[.int .u8 97, .int .u8 13, .int .u8 10, .int .u8 98, .int .u8 13, .int .u8 10, .int .u8 99] 5 (7, 8)) := ⟨_, rfl⟩
  have a3 : Below w3.heap.size w3 W3 := by rw [hW3]; exact (Below.refl _ w3).alloc (Nat.le_refl _) _
  have cf3 : CellsFrom W3 (some ⟨w3.heap.size, 0, none⟩) (([97, 13, 10, 98, 13, 10, 99] : List UInt8).map bval) := .inr ⟨_, rfl, fun j v hj => by
    rw [hW3, Addr.add_lit, Nat.zero_add]
    refine (World.cell?_alloc_mark w3 _ _ _ j).trans ?_
    rw [List.getElem?_toArray]
    exact hj⟩
  have b03 : Below w.heap.size w W3 := (HB.out.1.trans (H3.out.2.below H1.out.2.1 HB.out.1.size)).trans (a3.mono (Nat.le_trans HB.out.1.size H3.out.2.size))
  have t1 : TermAt W3 p1 F1' K1.g K1.s K1.held := H3.out.1.below a3
  have t2 : TermAt W3 p2 F2 K0.g K0.s K0.held := (HB.out.2.1.keep H3.out.2 HB.out.2.2.1).below a3
  have hdis : ∀ b, F1' b → ¬ F2 b := fun b h h2 => by
    rcases H3.out.2.sub b h with h' | h'
    · exact HB.out.2.2.1 b h2 h'
    · have := HB.out.2.1.lt b h2; omega
  have hc2 := write_any (tabs_below HT.out b03) t2 [97, 13, 10, 98, 13, 10, 99] _ 7 cf3 (fun e => by cases e) (by decide)
  rw [← hW3]
  have HC := Lib.hid (And.intro b03 (And.intro t1 (And.intro hdis hc2)))
  clear a3 cf3 b03 t1 t2 hdis hc2 hW3
  refine (HC.out.2.2.2).mono ?_
  rintro e w4 ⟨F2', rfl, t2, s2⟩
  have H4 := Lib.hid (show TermAt w4 p1 F1' K1.g K1.s K1.held ∧ TermAt w4 p2 F2' K2.g K2.s K2.held ∧ Below w.heap.size w w4 from ⟨HC.out.2.1.keep s2 HC.out.2.2.1, t2, HC.out.1.trans (s2.below HB.out.2.2.2.1 HC.out.1.size)⟩)
  clear t2 s2
  go_wp2_with fail
  refine (H4.out.1.screen).mono ?_
  rintro e w5 ⟨v5, ob, rb, rfl, hR5, hob, hrb, hnd, b5⟩
  obtain ⟨a5, m5, k5, rfl⟩ : ∃ a n c, v5 = .slice a n c := (by obtain ⟨vals, hS, _⟩ := hR5; obtain ⟨a, c, e, _⟩ := hS.form; exact ⟨a, _, c, e⟩)
  have hsv : screenVal K1.g (.slice a5 m5 k5) = .agg #[.int .i64 2, .int .i64 3, .slice a5 m5 k5, .int .i64 1, .int .i64 1, .bool false] := by
    simp [screenVal, K1_rows, K1_cols, K1_r, K1_c, K1_hid]
  rw [hsv]
  have H5 := Lib.hid (show TermAt w5 p1 F1' K1.g K1.s K1.held ∧ TermAt w5 p2 F2' K2.g K2.s K2.held ∧ Below w.heap.size w w5 from ⟨H4.out.1.below b5, H4.out.2.1.below b5, H4.out.2.2.trans (b5.mono H4.out.2.2.size)⟩)
  clear hR5 hob hrb hnd b5 hsv
  go_wp2_with fail
  obtain ⟨W, hW⟩ : ∃ W, W = w5.alloc (.cells #[.int .i64 2, .int .i64 3, .slice a5 m5 k5, .int .i64 1, .int .i64 1, .bool false] 37) := ⟨_, rfl⟩
  have hBl : Blk W w5.heap.size 37 #[.int .i64 2, .int .i64 3, .slice a5 m5 k5, .int .i64 1, .int .i64 1, .bool false] := by rw [hW]; exact Blk.new _ _ _
  have hbW : Below w5.heap.size w5 W := by rw [hW]; exact (Below.refl _ w5).alloc (Nat.le_refl _) _
  rw [← hW]
  have H6 := Lib.hid (show TermAt W p1 F1' K1.g K1.s K1.held ∧ TermAt W p2 F2' K2.g K2.s K2.held ∧ Below w.heap.size w W ∧ Blk W w5.heap.size 37 #[.int .i64 2, .int .i64 3, .slice a5 m5 k5, .int .i64 1, .int .i64 1, .bool false] from ⟨H5.out.1.below hbW, H5.out.2.1.below hbW, H5.out.2.2.trans (hbW.mono H5.out.2.2.size), hBl⟩)
  clear hBl hbW hW
  have l1 := H6.out.1.line 0 (by rw [K1_rows]; omega)
  rw [K1_0] at l1
  refine l1.mono ?_
  clear l1
  rintro e w7 ⟨rfl, b7⟩
  have H7 := Lib.hid (show TermAt w7 p1 F1' K1.g K1.s K1.held ∧ TermAt w7 p2 F2' K2.g K2.s K2.held ∧ Below w.heap.size w w7 ∧ Blk w7 w5.heap.size 37 #[.int .i64 2, .int .i64 3, .slice a5 m5 k5, .int .i64 1, .int .i64 1, .bool false] from ⟨H6.out.1.below b7, H6.out.2.1.below b7, H6.out.2.2.1.trans (b7.mono H6.out.2.2.1.size), H6.out.2.2.2.below b7 H6.out.2.2.2.lt⟩)
  clear b7
  go_wp2_with fail
  have l1 := H7.out.1.line 1 (by rw [K1_rows]; omega)
  rw [K1_1] at l1
  refine l1.mono ?_
  clear l1
  rintro e w8 ⟨rfl, b8⟩
  have H8 := Lib.hid (show TermAt w8 p1 F1' K1.g K1.s K1.held ∧ TermAt w8 p2 F2' K2.g K2.s K2.held ∧ Below w.heap.size w w8 ∧ Blk w8 w5.heap.size 37 #[.int .i64 2, .int .i64 3, .slice a5 m5 k5, .int .i64 1, .int .i64 1, .bool false] from ⟨H7.out.1.below b8, H7.out.2.1.below b8, H7.out.2.2.1.trans (b8.mono H7.out.2.2.1.size), H7.out.2.2.2.below b8 H7.out.2.2.2.lt⟩)
  clear b8
  have x3 : w8.cell? ⟨w5.heap.size, 3, none⟩ = some (.int .i64 1) := H8.out.2.2.2.cell 3
  have x4 : w8.cell? ⟨w5.heap.size, 4, none⟩ = some (.int .i64 1) := H8.out.2.2.2.cell 4
  go_wp2_with fail
  have l1 := H8.out.2.1.line 0 (by rw [K2_rows]; omega)
  rw [K2_0] at l1
  refine l1.mono ?_
  clear l1 x3 x4
  rintro e w9 ⟨rfl, b9⟩
  have H9 := Lib.hid (show TermAt w9 p2 F2' K2.g K2.s K2.held ∧ Below w.heap.size w w9 from ⟨H8.out.2.1.below b9, H8.out.2.2.1.trans (b9.mono H8.out.2.2.1.size)⟩)
  clear b9
  go_wp2_with fail
  have l1 := H9.out.1.line 1 (by rw [K2_rows]; omega)
  rw [K2_1] at l1
  refine l1.mono ?_
  clear l1
  rintro e wa ⟨rfl, ba⟩
  have HA := Lib.hid (show TermAt wa p2 F2' K2.g K2.s K2.held ∧ Below w.heap.size w wa from ⟨H9.out.1.below ba, H9.out.2.trans (ba.mono H9.out.2.size)⟩)
  clear ba
  go_wp2_with fail
  refine (HA.out.1.past).mono ?_
  rintro e wb ⟨vb, ob, rb, rfl, hR, hob, hrb, hnd, bb⟩
  obtain ⟨ab, cb, rfl⟩ : ∃ a c, vb = .slice a 1 c := (by obtain ⟨vals, hS, _⟩ := hR; obtain ⟨a, c, e, _⟩ := hS.form; exact ⟨a, c, by rw [e, K2_p]⟩)
  have HBB := Lib.hid (show Below w.heap.size w wb from HA.out.2.trans (bb.mono HA.out.2.size))
  clear hR hob hrb hnd bb
  go_wp2
  go_ret
  exact ⟨rfl, HBB.out⟩

end Go.Proofs.YtdbepelcgmnbbaaDoor
