/- The statement GridSizes: its walk. -/
import Derived.Test.YtdbepelcgmnbbaaDoorSizes
namespace Go.Proofs.YtdbepelcgmnbbaaDoor
open Go Go.RowKit

theorem wrap_small (z : Int) (h1 : -1000000 ≤ z) (h2 : z ≤ 1000000) : IntKind.i64.wrap z = z := by simp [IntKind.wrap, IntKind.bits, IntKind.signed]; omega

/-- What '[]byte(s)' has laid. -/
theorem bytes_in (w W : World) (s : ByteArray) (cap : Nat) (fr : Nat × Nat) (hW : W = (w.alloc (.cells (bytesRow s cap) 5 fr)).drew) :
    Below w.heap.size w W ∧ CellsFrom W (some ⟨w.heap.size, 0, none⟩) (s.data.toList.map bval) := by
  have h0 : Below w.heap.size w (w.alloc (.cells (bytesRow s cap) 5 fr)) := (Below.refl _ w).alloc (Nat.le_refl _) _
  subst hW
  refine ⟨⟨h0.os, h0.tape, h0.output, h0.size, h0.block⟩, .inr ⟨_, rfl, fun j v hj => ?_⟩⟩
  rw [Addr.add_lit, Nat.zero_add]
  refine (World.cell?_alloc_mark w _ _ _ j).trans ?_
  have hjl : j < s.data.size := by
    have := (List.getElem?_eq_some_iff.1 hj).1
    simpa using this
  unfold bytesRow
  rw [Array.getElem?_append_left (by simpa using hjl)]
  rw [← hj]
  simp
  rfl

theorem len_bytes (s : ByteArray) : s.data.toList.length = s.size := by rw [Array.length_toList]; rfl

/-- What a screen has shown, beside it. -/
def Side (w : World) (F : Nat → Prop) (v : Value) (L : List PG.Line) (A : Nat) (cs : Array Value) : Prop :=
  ∃ ob rb, RowsAt w v L ob rb ∧ Blk w A 37 cs ∧ ¬ F A ∧ (∀ b, ob = some b → ¬ F b) ∧ ∀ b ∈ rb, ¬ F b
theorem Side.step {w w' : World} {F F' : Nat → Prop} {v : Value} {L : List PG.Line} {A : Nat} {cs : Array Value} (h : Side w F v L A cs) (hs : Step F F' w w') : Side w' F' v L A cs := by
  obtain ⟨ob, rb, h1, h2, h3, h4, h5⟩ := h
  refine ⟨ob, rb, h1.same (fun b e => hs.block b (h1.lt.1 b e) (h4 b e)) (fun b e => hs.block b (h1.lt.2 b e) (h5 b e)), hs.blk h2 h3, fun h => ?_, fun b e h => ?_, fun b e h => ?_⟩
  · rcases hs.sub _ h with h | h
    · exact h3 h
    · have := h2.lt; omega
  · rcases hs.sub _ h with h | h
    · exact h4 b e h
    · have := h1.lt.1 b e; omega
  · rcases hs.sub _ h with h | h
    · exact h5 b e h
    · have := h1.lt.2 b e; omega
theorem Side.below {w w' : World} {F : Nat → Prop} {v : Value} {L : List PG.Line} {A : Nat} {cs : Array Value} (h : Side w F v L A cs) (hb : Below w.heap.size w w') : Side w' F v L A cs := by
  obtain ⟨ob, rb, h1, h2, h3, h4, h5⟩ := h
  exact ⟨ob, rb, h1.same (fun b e => hb.block b (h1.lt.1 b e)) (fun b e => hb.block b (h1.lt.2 b e)), h2.below hb h2.lt, h3, h4, h5⟩
/-- A screen is read: what it has shown, and a box. -/
theorem Side.new {w w' : World} {F : Nat → Prop} {v : Value} {L : List PG.Line} {ob : Option Nat} {rb : List Nat} {cs : Array Value} (h : RowsAt w' v L ob rb) (ho : ∀ b, ob = some b → w.heap.size ≤ b) (hr : ∀ b ∈ rb, w.heap.size ≤ b) (hb : Below w.heap.size w w') (hF : ∀ b, F b → b < w.heap.size) :
    Side (w'.alloc (.cells cs 37)) F v L w'.heap.size cs := by
  have hb2 : Below w'.heap.size w' (w'.alloc (.cells cs 37)) := (Below.refl _ w').alloc (Nat.le_refl _) _
  exact ⟨ob, rb, h.same (fun b e => hb2.block b (h.lt.1 b e)) (fun b e => hb2.block b (h.lt.2 b e)), Blk.new _ _ _, fun h => by have := hF _ h; have := hb.size; omega, fun b e h => by have := hF _ h; have := ho b e; omega, fun b e h => by have := hF _ h; have := hr b e; omega⟩

def TruePost (w : World) (e : Ending) (w' : World) : Prop := e = .returned (.bool true) ∧ Below w.heap.size w w'

set_option maxRecDepth 20000 in
set_option maxHeartbeats 4000000 in
theorem gridSizes_any {w : World} (hT : Lib.Utf8Tabs 2 3 w) (hp : StrTab w 0 34) (hm : StrTab w 1 22) (r c dr dc : Int) (a : Option Addr) (n k : Nat) (hn : n ≤ 9223372036854775807) (hl : IntsAt w a n) :
    Calls Tryd.prog 4 #[.int .i64 r, .int .i64 c, .int .i64 dr, .int .i64 dc, .slice a n k] w (TruePost w) := by
  have HH := Lib.hid (And.intro hT (And.intro hp (And.intro hm (And.intro hl hn))))
  clear hT hp hm hl hn
  go_enter Tryd.func4, Tryd.ntmps4
  go_wp2_with fail
  refine (pick_any w r 8 (by omega) (by omega)).mono ?_
  rintro e w1 ⟨x, hx, rfl, rfl⟩
  obtain ⟨rows, hrows⟩ : ∃ q, q = x + 1 := ⟨_, rfl⟩
  have hw1 : IntKind.i64.wrap (1 + (x : Int)) = (rows : Int) := by rw [wrap_small _ (by omega) (by omega)]; omega
  have HR := Lib.hid (show 1 ≤ rows ∧ rows ≤ 8 by omega)
  clear hx hrows
  go_wp2_with fail
  refine (pick_any w c 12 (by omega) (by omega)).mono ?_
  rintro e w1 ⟨y, hy, rfl, rfl⟩
  obtain ⟨cols, hcols⟩ : ∃ q, q = y + 1 := ⟨_, rfl⟩
  have hw2 : IntKind.i64.wrap (1 + (y : Int)) = (cols : Int) := by rw [wrap_small _ (by omega) (by omega)]; omega
  have HC := Lib.hid (show 1 ≤ cols ∧ cols ≤ 12 by omega)
  clear hy hcols
  go_wp2_with fail
  refine (gNew_any w rows cols HR.out.1 (by have := HR.out.2; omega) HC.out.1 (by have := HC.out.2; omega)).mono ?_
  rintro e w1 ⟨p, F, rfl, t1, f1, b1⟩
  have H1 := Lib.hid (And.intro t1 (And.intro f1 b1))
  clear t1 f1 b1
  go_wp2_with fail
  refine (known_any (tabs_below HH.out.1 H1.out.2.2)).mono ?_
  rintro e w2 ⟨rfl, b2⟩
  have H2 := Lib.hid (show TermAt w2 p F (PT.new rows cols).g (PT.new rows cols).s (PT.new rows cols).held ∧ Below w.heap.size w w2 from ⟨H1.out.1.below b2, H1.out.2.2.trans (b2.mono H1.out.2.2.size)⟩)
  clear b2
  go_wp2_with fail
  refine (output_any w2 (HH.out.2.1.below H2.out.2) (HH.out.2.2.1.below H2.out.2) a n k rows HH.out.2.2.2.2 (by have := HR.out.2; omega) (HH.out.2.2.2.1.below H2.out.2)).mono ?_
  rintro e w3 ⟨s, rfl, hs, b3⟩
  have H3 := Lib.hid (show TermAt w3 p F (PT.new rows cols).g (PT.new rows cols).s (PT.new rows cols).held ∧ Below w.heap.size w w3 ∧ s.size ≤ 16000 from ⟨H2.out.1.below b3, H2.out.2.trans (b3.mono H2.out.2.size), hs⟩)
  clear b3 hs
  have hcv := fun (w : World) (s : ByteArray) => run_bytes_of_string (P := Tryd.prog) w 9 23 5 s Tryd.underlying9 Tryd.underlying23 Tryd.underlying5
  go_wp2_with fail
  obtain ⟨cap, hcap⟩ : ∃ q, q = grownCap w3 s.size 0 5 := ⟨_, rfl⟩
  rw [← hcap]
  obtain ⟨W3, hW3⟩ : ∃ q, q = (w3.alloc (.cells (bytesRow s cap) 5 ((bytesRow s cap).size, (bytesRow s cap).size + 1))).drew := ⟨_, rfl⟩
  rw [← hW3]
  obtain ⟨b3, cf3⟩ := bytes_in w3 W3 s cap _ hW3
  have hwr := write_any (tabs_below (tabs_below HH.out.1 H3.out.2.1) b3) (H3.out.1.below b3) s.data.toList (some ⟨w3.heap.size, 0, none⟩) cap cf3 (fun e => by cases e) (by rw [len_bytes]; have := H3.out.2.2; omega)
  rw [len_bytes] at hwr
  obtain ⟨T, hT⟩ : ∃ T, T = (PT.new rows cols).write s.data.toList := ⟨_, rfl⟩
  rw [← hT] at hwr
  have hsz : T.g.rows = rows ∧ T.g.cols = cols := by rw [hT]; exact PT.write_size _ _
  have H4 := Lib.hid (And.intro hwr (And.intro hsz (show Below w.heap.size w W3 from H3.out.2.1.trans (b3.mono H3.out.2.1.size))))
  clear hwr hsz b3 cf3 hW3 hcap hT
  refine (H4.out.1).mono ?_
  rintro e w4 ⟨F4, rfl, t4, s4⟩
  have H5 := Lib.hid (show TermAt w4 p F4 T.g T.s T.held ∧ Below w.heap.size w w4 ∧ ∀ b, F4 b → w.heap.size ≤ b from ⟨t4, H4.out.2.2.trans (s4.below H1.out.2.1 H4.out.2.2.size), fun b hb => by
    rcases s4.sub b hb with h | h
    · exact H1.out.2.1 b h
    · exact Nat.le_trans H4.out.2.2.size h⟩)
  clear t4 s4
  go_wp2_with fail
  refine (H5.out.1.screen).mono ?_
  rintro e w5 ⟨v5, ob, rb, rfl, hR5, hob, hrb, hnd, b5⟩
  obtain ⟨a5, m5, k5, rfl⟩ : ∃ a n c, v5 = .slice a n c := (by obtain ⟨vals, hS, _⟩ := hR5; obtain ⟨a, c, e, _⟩ := hS.form; exact ⟨a, _, c, e⟩)
  have hsv : screenVal T.g (.slice a5 m5 k5) = .agg #[.int .i64 T.g.rows, .int .i64 T.g.cols, .slice a5 m5 k5, .int .i64 T.g.at_.row, .int .i64 T.g.at_.col, .bool T.g.hidden] := rfl
  rw [hsv]
  have hd5 := Side.new (cs := #[.int .i64 T.g.rows, .int .i64 T.g.cols, .slice a5 m5 k5, .int .i64 T.g.at_.row, .int .i64 T.g.at_.col, .bool T.g.hidden]) hR5 hob hrb b5 H5.out.1.lt
  have hW5 : Below w5.heap.size w5 (w5.alloc (.cells #[.int .i64 T.g.rows, .int .i64 T.g.cols, .slice a5 m5 k5, .int .i64 T.g.at_.row, .int .i64 T.g.at_.col, .bool T.g.hidden] 37)) := (Below.refl _ w5).alloc (Nat.le_refl _) _
  have t5 := (H5.out.1.below b5).below hW5
  have c5 : Below w.heap.size w w5 := H5.out.2.1.trans (b5.mono H5.out.2.1.size)
  have d5 := c5.trans (hW5.mono c5.size)
  obtain ⟨B5, hB5⟩ : ∃ q, q = w5.heap.size := ⟨_, rfl⟩
  have H6 := Lib.hid (And.intro hd5 (And.intro t5 d5))
  clear hR5 hob hrb hnd b5 hsv hd5 hW5 t5 c5 d5
  go_wp2_with fail
  obtain ⟨W5, hW5⟩ : ∃ q, q = w5.alloc (.cells #[.int .i64 T.g.rows, .int .i64 T.g.cols, .slice a5 m5 k5, .int .i64 T.g.at_.row, .int .i64 T.g.at_.col, .bool T.g.hidden] 37) := ⟨_, rfl⟩
  rw [← hW5] at H6
  rw [← hW5, ← hB5]
  rw [← hB5] at H6
  have HB5 := Lib.hid (And.intro hB5 hW5)
  clear hB5 hW5
  refine (pick_any W5 dr 9 (by omega) (by omega)).mono ?_
  rintro e w6 ⟨x2, hx2, rfl, rfl⟩
  obtain ⟨rows2, hrows2⟩ : ∃ q, q = rows + x2 := ⟨_, rfl⟩
  have hw3 : IntKind.i64.wrap ((rows : Int) + (x2 : Int)) = (rows2 : Int) := by rw [wrap_small _ (by omega) (by have := HR.out.2; omega)]; omega
  have HR2 := Lib.hid (show rows ≤ rows2 ∧ rows2 ≤ 17 by have := HR.out.2; omega)
  clear hx2 hrows2
  go_wp2_with fail
  refine (pick_any W5 dc 9 (by omega) (by omega)).mono ?_
  rintro e w6 ⟨y2, hy2, rfl, rfl⟩
  obtain ⟨cols2, hcols2⟩ : ∃ q, q = cols + y2 := ⟨_, rfl⟩
  have hw4 : IntKind.i64.wrap ((cols : Int) + (y2 : Int)) = (cols2 : Int) := by rw [wrap_small _ (by omega) (by have := HC.out.2; omega)]; omega
  have HC2 := Lib.hid (show cols ≤ cols2 ∧ cols2 ≤ 21 by have := HC.out.2; omega)
  clear hy2 hcols2
  go_wp2_with fail
  refine (H6.out.2.1.resize rows2 cols2 (by have := HR.out.1; have := HR2.out.1; omega) (by have := HR2.out.2; omega) (by have := HC.out.1; have := HC2.out.1; omega) (by have := HC2.out.2; omega)).mono ?_
  rintro e w6 ⟨F6, rfl, t6, s6⟩
  have H7 := Lib.hid (And.intro (H6.out.1.step s6) (And.intro t6 (And.intro (H6.out.2.2.trans (s6.below H5.out.2.2 H6.out.2.2.size)) (show ∀ b, F6 b → w.heap.size ≤ b from fun b hb => by
    rcases s6.sub b hb with h | h
    · exact H5.out.2.2 b h
    · exact Nat.le_trans H6.out.2.2.size h))))
  clear t6 s6
  go_wp2_with fail
  refine (H7.out.2.1.resize rows cols HR.out.1 (by have := HR.out.2; omega) HC.out.1 (by have := HC.out.2; omega)).mono ?_
  rintro e w7 ⟨F7, rfl, t7, s7⟩
  obtain ⟨g2, hg2⟩ : ∃ g2, g2 = (T.g.resize rows2 cols2).resize rows cols := ⟨_, rfl⟩
  rw [← hg2] at t7
  have hback := PG.resize_back H5.out.1.inv (r' := rows2) (c' := cols2) (by rw [H4.out.2.1.1]; exact HR2.out.1) (by rw [H4.out.2.1.2]; exact HC2.out.1)
  rw [H4.out.2.1.1, H4.out.2.1.2, ← hg2] at hback
  have H8 := Lib.hid (And.intro (H7.out.1.step s7) (And.intro t7 (And.intro (H7.out.2.2.1.trans (s7.below H7.out.2.2.2 H7.out.2.2.1.size)) hback)))
  clear t7 s7 hg2 hback
  go_wp2_with fail
  refine (H8.out.2.1.screen).mono ?_
  rintro e w8 ⟨v8, ob, rb, rfl, hR8, hob, hrb, hnd, b8⟩
  obtain ⟨a8, m8, k8, rfl⟩ : ∃ a n c, v8 = .slice a n c := (by obtain ⟨vals, hS, _⟩ := hR8; obtain ⟨a, c, e, _⟩ := hS.form; exact ⟨a, _, c, e⟩)
  have hsv : screenVal g2 (.slice a8 m8 k8) = .agg #[.int .i64 rows, .int .i64 cols, .slice a8 m8 k8, .int .i64 T.g.at_.row, .int .i64 T.g.at_.col, .bool T.g.hidden] := by
    unfold screenVal
    rw [H8.out.2.2.2.2.1, H8.out.2.2.2.2.2.1, H8.out.2.2.2.2.2.2.1, H8.out.2.2.2.2.2.2.2.1, H8.out.2.2.2.2.2.2.2.2]
  rw [hsv]
  rw [H8.out.2.2.2.1] at hR8
  have hd8 := Side.new (cs := #[.int .i64 rows, .int .i64 cols, .slice a8 m8 k8, .int .i64 T.g.at_.row, .int .i64 T.g.at_.col, .bool T.g.hidden]) hR8 hob hrb b8 H8.out.2.1.lt
  have hW8 : Below w8.heap.size w8 (w8.alloc (.cells #[.int .i64 rows, .int .i64 cols, .slice a8 m8 k8, .int .i64 T.g.at_.row, .int .i64 T.g.at_.col, .bool T.g.hidden] 37)) := (Below.refl _ w8).alloc (Nat.le_refl _) _
  have c8 : Below w.heap.size w w8 := H8.out.2.2.1.trans (b8.mono H8.out.2.2.1.size)
  obtain ⟨W8, hW8e⟩ : ∃ q, q = w8.alloc (.cells #[.int .i64 rows, .int .i64 cols, .slice a8 m8 k8, .int .i64 T.g.at_.row, .int .i64 T.g.at_.col, .bool T.g.hidden] 37) := ⟨_, rfl⟩
  obtain ⟨B8, hB8⟩ : ∃ q, q = w8.heap.size := ⟨_, rfl⟩
  have H9 := Lib.hid (And.intro ((H8.out.1.below b8).below hW8) (And.intro hd8 (c8.trans (hW8.mono c8.size))))
  rw [← hW8e, ← hB8] at H9
  have HB8 := Lib.hid (And.intro hW8e hB8)
  have b8' := b8
  clear hsv hR8 hob hrb hnd b8 hd8 hW8 c8
  clear HB8
  obtain ⟨g9, hg9⟩ : ∃ q, q = T.g := ⟨_, rfl⟩
  have hok : PG.SheetOk rows cols g9.cells := by
    have := H5.out.1.inv.cells
    rw [H4.out.2.1.1, H4.out.2.1.2, ← hg9] at this
    exact this
  rw [← hg9] at H9
  rw [← hg9] at hW8e
  rw [← hg9]
  obtain ⟨_, _, _, hbA, _⟩ := H9.out.1
  have x3 : W8.cell? ⟨B5, 3, none⟩ = some (.int .i64 g9.at_.row) := hbA.cell 3
  have x4 : W8.cell? ⟨B5, 4, none⟩ = some (.int .i64 g9.at_.col) := hbA.cell 4
  have x5 : W8.cell? ⟨B5, 5, none⟩ = some (.bool g9.hidden) := hbA.cell 5
  rw [hW8e] at x3 x4 x5
  have HOK := Lib.hid (And.intro hok (And.intro hW8e hB8))
  clear hbA hok hg9 hW8e hB8 b8'
  go_wp2_with fail
  go_loopw [15, 16] (fun i _ wr => ∃ q : Nat, q ≤ rows ∧ i = .int .i64 q ∧ Below W8.heap.size W8 wr) (fun i _ _ => rows - (intOf i).toNat)
  case atStart => exact ⟨0, Nat.zero_le _, rfl, by rw [HOK.out.2.1]; exact Below.refl _ _⟩
  case round =>
    obtain ⟨i, hi, rfl, hwr⟩ := hrel
    have HW := Lib.hid hwr
    clear hwr x3 x4 x5
    by_cases hlt : i < rows
    · have d1 : decide ((i : Int) < rows) = true := by simp; omega
      have d2 : decide (i < rows) = true := by simp; omega
      have d3 : (i : Int) < rows := by omega
      have d4 : (0 : Int) ≤ (i : Int) := by omega
      have ib : i < 8 := by have := HR.out.2; omega
      go_wp2_with fail
      go_loopw [16] (fun j wq => ∃ q : Nat, q ≤ cols ∧ j = .int .i64 q ∧ Below W8.heap.size W8 wq) (fun j _ => cols - (intOf j).toNat)
      case atStart => exact ⟨0, Nat.zero_le _, rfl, HW.out⟩
      case round =>
        obtain ⟨j, hj, rfl, hwq⟩ := hrel
        have HQ := Lib.hid hwq
        clear hwq HW
        by_cases hjt : j < cols
        · have f1 : decide ((j : Int) < cols) = true := by simp; omega
          have f2 : decide (j < cols) = true := by simp; omega
          have f3 : (j : Int) < cols := by omega
          have f4 : (0 : Int) ≤ (j : Int) := by omega
          have jb : j < 12 := by have := HC.out.2; omega
          obtain ⟨obA, rbA, hRA, hbA, _⟩ := H9.out.1.below HQ.out
          obtain ⟨obB, rbB, hRB, hbB, _⟩ := H9.out.2.1.below HQ.out
          rw [HOK.out.2.2] at hbB
          have p2 : wr.cell? ⟨B5, 2, none⟩ = some (.slice a5 m5 k5) := hbA.cell 2
          have q2 : wr.cell? ⟨w8.heap.size, 2, none⟩ = some (.slice a8 m8 k8) := hbB.cell 2
          obtain ⟨bo, oo, b, o, kk, rfl, rfl, p3, p4, p5, p6, p7⟩ := hRA.place HOK.out.1 hlt hjt
          obtain ⟨bo', oo', b', o', kk', rfl, rfl, q3, q4, q5, q6, q7⟩ := hRB.place HOK.out.1 hlt hjt
          obtain ⟨cl, hcl⟩ : ∃ q, q = (g9.cells.getD i []).getD j PG.blank := ⟨_, rfl⟩
          rw [← hcl] at p4 p5 p6 p7 q4 q5 q6 q7
          clear hRA hRB hbA hbB hcl
          go_wp2_with fail
          go_quiet (fail)
          go_wp2
          go_roundw
          case rel => exact ⟨j + 1, by omega, by go_num, below_drewN HQ.out _⟩
          case measure => simp [intOf]; omega
        · have f1 : decide ((j : Int) < cols) = false := decide_eq_false (by omega)
          have f2 : decide (j < cols) = false := decide_eq_false (by omega)
          go_wp2
          go_roundw
          case rel => exact ⟨i + 1, by omega, by go_num, HQ.out⟩
          case measure => simp [intOf]; omega
    · have d1 : decide ((i : Int) < rows) = false := decide_eq_false (by omega)
      have d2 : decide (i < rows) = false := decide_eq_false (by omega)
      go_wp2
      go_ret
      exact ⟨rfl, H9.out.2.2.trans (HW.out.mono H9.out.2.2.size)⟩

end Go.Proofs.YtdbepelcgmnbbaaDoor
