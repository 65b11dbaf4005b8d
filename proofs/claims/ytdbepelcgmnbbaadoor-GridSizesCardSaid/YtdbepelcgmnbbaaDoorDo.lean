/- An act is done; a new screen. -/
import Derived.Test.YtdbepelcgmnbbaaDoorEsc
import Derived.Test.YtdbepelcgmnbbaaDoorVtRune
namespace Go.Proofs.YtdbepelcgmnbbaaDoor
open Go Go.RowKit

set_option maxRecDepth 20000 in
set_option maxHeartbeats 4000000 in
theorem do_any {w : World} {p : Nat} {F : Nat → Prop} {g : PG.G} {aq : Option Addr} (h : GridAt w p F g (.pointer aq)) (a : PG.G.Act) (pv : Value) (ob : Option Nat) (hp : ParamsAt w pv a.params ob) (hob : ∀ b, ob = some b → ¬ F b) (hlen : a.params.length ≤ 100000)
    (hps : ∀ x ∈ a.params, 0 ≤ x ∧ x ≤ 9999) (hrune : a.kind = 1 → PG.RuneOk a.rune) :
    Calls Tryd.prog 20 #[.pointer (some ⟨p, 0, none⟩), actVal a pv] w (GPost w p F (g.act a) (.pointer aq)) := by
  obtain ⟨kind, r, mark, ps⟩ := a
  obtain ⟨pa, pc, rfl⟩ := ParamsAt.form hp
  have H := Lib.hid h
  have HP := Lib.hid (show ParamsAt (w.alloc (.cells #[.int .i64 kind, .int .i32 r, .bool mark, .slice pa ps.length pc] 59)) (.slice pa ps.length pc) ps ob from SlAt.alloc hp _)
  have HR := Lib.hid hrune
  have HG := Lib.hid (h.alloc (.cells #[.int .i64 kind, .int .i32 r, .bool mark, .slice pa ps.length pc] 59))
  clear h hp hrune
  simp only [actVal] at *
  by_cases h1 : kind = 1
  · subst h1
    have e : g.print r = g.act ⟨1, r, mark, ps⟩ := by unfold PG.G.act; simp
    have HE := Lib.hid e
    clear e
    go_enter Tryd.func20, Tryd.ntmps20
    go_wp2_with fail
    refine (print_any (by exact HG.out) r (HR.out (by trivial))).mono ?_
    rintro e w2 ⟨F2, rfl, hG2, hst2⟩
    go_wp2
    go_end0
    exact GPost.cast HE.out ⟨F2, rfl, hG2, Step.alloc_left hst2⟩
  have b1 : (kind == 1) = false := by simpa using h1
  by_cases h2 : kind = 2
  · subst h2
    have e : g.control r = g.act ⟨2, r, mark, ps⟩ := by unfold PG.G.act; simp
    have HE := Lib.hid e
    clear e
    go_enter Tryd.func20, Tryd.ntmps20
    go_wp2_with fail
    refine (control_any (by exact HG.out) r).mono ?_
    rintro e w2 ⟨F2, rfl, hG2, hst2⟩
    go_wp2
    go_end0
    exact GPost.cast HE.out ⟨F2, rfl, hG2, Step.alloc_left hst2⟩
  have b2 : (kind == 2) = false := by simpa using h2
  by_cases h3 : kind = 3
  · subst h3
    have e : g.esc r = g.act ⟨3, r, mark, ps⟩ := by unfold PG.G.act; simp
    have HE := Lib.hid e
    clear e
    go_enter Tryd.func20, Tryd.ntmps20
    go_wp2_with fail
    refine (esc_any (by exact HG.out) r).mono ?_
    rintro e w2 ⟨F2, rfl, hG2, hst2⟩
    go_wp2
    go_end0
    exact GPost.cast HE.out ⟨F2, rfl, hG2, Step.alloc_left hst2⟩
  have b3 : (kind == 3) = false := by simpa using h3
  by_cases h4 : kind = 4
  · subst h4
    cases mark
    · have e : g.csi r ps = g.act ⟨4, r, false, ps⟩ := by unfold PG.G.act; simp
      have HE := Lib.hid e
      clear e
      go_enter Tryd.func20, Tryd.ntmps20
      go_wp2_with fail
      refine (csi_any (by exact HG.out) ⟨4, r, false, ps⟩ _ ob (by exact HP.out) hob hlen hps).mono ?_
      rintro e w2 ⟨F2, rfl, hG2, hst2⟩
      go_wp2
      go_end0
      exact GPost.cast HE.out ⟨F2, rfl, hG2, Step.alloc_left hst2⟩
    · have e : g.modes r ps = g.act ⟨4, r, true, ps⟩ := by unfold PG.G.act; simp
      have HE := Lib.hid e
      clear e
      go_enter Tryd.func20, Tryd.ntmps20
      go_wp2_with fail
      refine (modes_any (by exact HG.out) ⟨4, r, true, ps⟩ _ ob (by exact HP.out) hob hlen).mono ?_
      rintro e w2 ⟨F2, rfl, hG2, hst2⟩
      go_wp2
      go_end0
      exact GPost.cast HE.out ⟨F2, rfl, hG2, Step.alloc_left hst2⟩
  · have b4 : (kind == 4) = false := by simpa using h4
    have e : g = g.act ⟨kind, r, mark, ps⟩ := by unfold PG.G.act; simp [h1, h2, h3, h4]
    have HE := Lib.hid e
    clear e
    go_enter Tryd.func20, Tryd.ntmps20
    go_wp2
    go_end0
    exact GPost.cast HE.out ⟨F, rfl, HG.out, (Step.refl F w).alloc _⟩

/-- The whole of a parser: what goes by runes, and the bytes that it holds. -/
def ParserAt (w : World) (q : Nat) (F : Nat → Prop) (s : PV.P) (held : List UInt8) : Prop :=
  held.length ≤ 3 ∧ (∀ b, F b → b < w.heap.size) ∧ ∃ (F1 : Nat → Prop) (d : Nat) (vh : Value) (oh : Option Nat), RunAt w q F1 s d ∧ Blk w d 84 #[vh] ∧ SlAt w 5 1 vh held.length (held.map fun b => Value.int .u8 b.toNat) oh ∧
    (∀ b, F1 b → F b) ∧ F d ∧ (∀ b, oh = some b → F b) ∧ ¬ F1 d ∧ (∀ b, oh = some b → ¬ F1 b)

/-- A screen with its parser. -/
def TermAt (w : World) (p : Nat) (F : Nat → Prop) (g : PG.G) (s : PV.P) (held : List UInt8) : Prop :=
  ∃ (q : Nat) (Fg Fq : Nat → Prop), GridAt w p Fg g (.pointer (some ⟨q, 0, none⟩)) ∧ ParserAt w q Fq s held ∧ (∀ b, Fg b → ¬ Fq b) ∧ (∀ b, Fg b → F b) ∧ (∀ b, Fq b → F b) ∧ ∀ b, F b → b < w.heap.size

theorem size_any (w : World) (rows cols : Int) (b : Bool) (hb : b = decide (1 ≤ rows ∧ rows ≤ 60 ∧ 1 ≤ cols ∧ cols ≤ 120)) : Calls Tryd.prog 14 #[.int .i64 rows, .int .i64 cols] w fun e w' => e = .returned (.bool b) ∧ w = w' := by
  by_cases h1 : 1 ≤ rows
  · have d1 : decide (1 ≤ rows) = true := by simpa using h1
    by_cases h2 : rows ≤ 60
    · have d2 : decide (rows ≤ 60) = true := by simpa using h2
      by_cases h3 : 1 ≤ cols
      · have d3 : decide (1 ≤ cols) = true := by simpa using h3
        by_cases h4 : cols ≤ 120
        · have d4 : decide (cols ≤ 120) = true := by simpa using h4
          obtain rfl : b = true := by rw [hb]; simp; omega
          clear hb
          go_enter Tryd.func14, Tryd.ntmps14
          go_wp2
          go_ret
          exact ⟨rfl, rfl⟩
        · have d4 : decide (cols ≤ 120) = false := by simpa using h4
          obtain rfl : b = false := by rw [hb]; simp; omega
          clear hb
          go_enter Tryd.func14, Tryd.ntmps14
          go_wp2
          go_ret
          exact ⟨rfl, rfl⟩
      · have d3 : decide (1 ≤ cols) = false := by simpa using h3
        obtain rfl : b = false := by rw [hb]; simp; omega
        clear hb
        go_enter Tryd.func14, Tryd.ntmps14
        go_wp2
        go_ret
        exact ⟨rfl, rfl⟩
    · have d2 : decide (rows ≤ 60) = false := by simpa using h2
      obtain rfl : b = false := by rw [hb]; simp; omega
      clear hb
      go_enter Tryd.func14, Tryd.ntmps14
      go_wp2
      go_ret
      exact ⟨rfl, rfl⟩
  · have d1 : decide (1 ≤ rows) = false := by simpa using h1
    obtain rfl : b = false := by rw [hb]; simp; omega
    clear hb
    go_enter Tryd.func14, Tryd.ntmps14
    go_wp2
    go_ret
    exact ⟨rfl, rfl⟩

set_option maxHeartbeats 400000 in
theorem utfNew_any (w : World) : Calls Tryd.prog 25 #[] w fun e w' => e = .returned (.pointer (some ⟨w.heap.size, 0, none⟩)) ∧ w' = w.alloc (.cells #[.slice none 0 0] 84) := by
  go_enter Tryd.func25, Tryd.ntmps25
  go_wp2
  go_ret
  exact ⟨rfl, rfl⟩

/-- A new parser is handed back. -/
def NewParser (w : World) (e : Ending) (w' : World) : Prop := ∃ q F, e = .returned (.pointer (some ⟨q, 0, none⟩)) ∧ ParserAt w' q F PV.fresh [] ∧ (∀ b, F b → w.heap.size ≤ b) ∧ Below w.heap.size w w' ∧ w.heap.size ≤ q

set_option maxHeartbeats 400000 in
theorem vtNew_any (w : World) : Calls Tryd.prog 15 #[] w (NewParser w) := by
  go_enter Tryd.func15, Tryd.ntmps15
  go_wp2_with fail
  refine (utfNew_any w).mono ?_
  rintro e w1 ⟨rfl, rfl⟩
  go_wp2
  go_ret
  have hd : Blk (w.alloc (.cells #[.slice none 0 0] 84)) w.heap.size 84 #[.slice none 0 0] := Blk.new _ _ _
  refine ⟨w.heap.size + 1, fun b => b = w.heap.size + 1 ∨ b = w.heap.size, rfl, ⟨by simp, fun b hb => by simp; omega, fun b => b = w.heap.size + 1, w.heap.size, .slice none 0 0, none, ⟨PV.fresh_inv, fun b hb => by simp; omega, .slice none 0 0, none, Blk.new_at (by simp), SlAt.nil _ _ _, rfl, fun b e => (by cases e)⟩, hd.alloc _, SlAt.nil _ _ _, fun b hb => .inl hb, .inr rfl, fun b e => (by cases e), by omega, fun b e => (by cases e)⟩, fun b hb => by omega, ?_, by omega⟩
  exact ((Below.refl _ _).alloc (Nat.le_refl _) _).alloc (by simp) _

/-- A new screen is handed back. -/
def NewTerm (w : World) (rows cols : Nat) (e : Ending) (w' : World) : Prop :=
  ∃ p F, e = .returned (.tuple #[.pointer (some ⟨p, 0, none⟩), .int .i64 0]) ∧ TermAt w' p F (PG.new rows cols) PV.fresh [] ∧ (∀ b, F b → w.heap.size ≤ b) ∧ Below w.heap.size w w'

set_option maxRecDepth 20000 in
set_option maxHeartbeats 1000000 in
theorem gNew_any (w : World) (rows cols : Nat) (h1 : 1 ≤ rows) (h2 : rows ≤ 60) (h3 : 1 ≤ cols) (h4 : cols ≤ 120) : Calls Tryd.prog 6 #[.int .i64 rows, .int .i64 cols] w (NewTerm w rows cols) := by
  go_enter Tryd.func6, Tryd.ntmps6
  go_wp2_with fail
  refine (size_any w rows cols true (by simp; omega)).mono ?_
  rintro e w1 ⟨rfl, rfl⟩
  go_wp2_with fail
  refine (vtNew_any w).mono ?_
  rintro e w1 ⟨q, F, rfl, hq, hF, hb1, hqs⟩
  have HQ := Lib.hid (And.intro hq (And.intro hF (And.intro hb1 hqs)))
  clear hq hF hb1 hqs
  go_wp2_with fail
  have hB : Blk (w1.alloc (.cells (gcells (bare rows cols []) nilv nilv nilv nilv (.pointer (some ⟨q, 0, none⟩))) 52)) w1.heap.size 52 (gcells (bare rows cols []) nilv nilv nilv nilv (.pointer (some ⟨q, 0, none⟩))) := Blk.new _ _ _
  refine (reset_mem (g := bare rows cols []) (bp := none) (rp := []) (by exact hB) h1 h2 h3 h4 (RowsAt.nil _) PG.G.nil_past List.nodup_nil).mono ?_
  rintro e w2 ⟨F2, rfl, hG2, hst2⟩
  go_wp2
  go_ret2
  obtain ⟨hq, hF, hb1, hqs⟩ := HQ.out
  have hs1 := hb1.size
  have hG2b : ∀ b, F2 b → w1.heap.size ≤ b := fun b hb => by
    rcases hst2.sub b hb with h | h
    · rcases h with h | h | h
      · omega
      · cases h
      · cases h
    · simp at h; omega
  have hst3 : Step (fun b => b = w1.heap.size) F2 w1 w2 := (Step.alloc_left (hst2.weaken (G := fun b => b = w1.heap.size) (fun b hb => by rcases hb with h | h | h; exact h; cases h; cases h)))
  have hq2 : ParserAt w2 q F PV.fresh [] := by
    obtain ⟨x1, x2, F1, d, vh, oh, y1, y2, y3, y4, y5, y6, y7, y8⟩ := hq
    have hn : ∀ b, F b → ¬ b = w1.heap.size := fun b hb => by have := x2 b hb; omega
    exact ⟨x1, fun b hb => Nat.lt_of_lt_of_le (x2 b hb) hst3.size, F1, d, vh, oh, y1.keep hst3 (fun b hb => hn b (y4 b hb)), hst3.blk y2 (hn d y5), y3.step hst3 (fun b e => hn b (y6 b e)), y4, y5, y6, y7, y8⟩
  refine ⟨w1.heap.size, fun b => F2 b ∨ F b, rfl, ⟨q, F2, F, hG2, hq2, fun b hb hb' => ?_, fun b hb => .inl hb, fun b hb => .inr hb, fun b hb => ?_⟩, fun b hb => ?_, ?_⟩
  · have := hG2b b hb
    have := hq.2.1 b hb'
    omega
  · rcases hb with hb | hb
    · exact hG2.2.1 b hb
    · exact hq2.2.1 b hb
  · rcases hb with hb | hb
    · have := hG2b b hb; omega
    · exact hF b hb
  · exact hb1.trans (hst3.below (B := w.heap.size) (fun b hb => by omega) (by omega))

end Go.Proofs.YtdbepelcgmnbbaaDoor
