/- A control sequence. -/
import Derived.Test.YtdbepelcgmnbbaaDoorEdit
namespace Go.Proofs.YtdbepelcgmnbbaaDoor
open Go Go.RowKit

theorem GPost.cast {w w' : World} {p : Nat} {F : Nat → Prop} {g g' : PG.G} {vq : Value} {e : Ending} (h : g = g') (hp : GPost w p F g vq e w') : GPost w p F g' vq e w' := h ▸ hp

theorem csi_up (g : PG.G) (ps : List Int) (k : Nat) (hk : (k : Int) = PG.G.param ps 0 1) (r : Int) (hr : r = 65 ∨ r = 70) (x y : Int) (hx : x = max ((g.at_.row : Int) - k) (if g.top ≤ g.at_.row then (g.top : Int) else 0)) (hy : y = if r = 70 then 0 else (g.at_.col : Int)) : g.move x y = g.csi r ps := by
  subst hx hy
  unfold PG.G.csi
  rw [← hk]
  rcases hr with rfl | rfl <;> simp
theorem csi_down (g : PG.G) (ps : List Int) (k : Nat) (hk : (k : Int) = PG.G.param ps 0 1) (r : Int) (hr : r = 66 ∨ r = 69) (x y : Int) (hx : x = min ((g.at_.row : Int) + k) (if g.at_.row ≤ g.bottom then (g.bottom : Int) else (g.rows : Int) - 1)) (hy : y = if r = 69 then 0 else (g.at_.col : Int)) : g.move x y = g.csi r ps := by
  subst hx hy
  unfold PG.G.csi
  rw [← hk]
  rcases hr with rfl | rfl <;> simp
theorem csi_C (g : PG.G) (ps : List Int) (k : Nat) (hk : (k : Int) = PG.G.param ps 0 1) : g.move g.at_.row ((g.at_.col : Int) + k) = g.csi 67 ps := by
  unfold PG.G.csi
  rw [← hk]
  simp
theorem csi_D (g : PG.G) (ps : List Int) (k : Nat) (hk : (k : Int) = PG.G.param ps 0 1) : g.move g.at_.row ((g.at_.col : Int) - k) = g.csi 68 ps := by
  unfold PG.G.csi
  rw [← hk]
  simp
theorem csi_G (g : PG.G) (ps : List Int) (k : Nat) (hk : (k : Int) = PG.G.param ps 0 1) : g.move g.at_.row ((k : Int) - 1) = g.csi 71 ps := by
  unfold PG.G.csi
  rw [← hk]
  simp
theorem csi_d (g : PG.G) (ps : List Int) (k : Nat) (hk : (k : Int) = PG.G.param ps 0 1) : g.move ((k : Int) - 1) g.at_.col = g.csi 100 ps := by
  unfold PG.G.csi
  rw [← hk]
  simp
theorem csi_H (g : PG.G) (ps : List Int) (k m : Nat) (hk : (k : Int) = PG.G.param ps 0 1) (hm : (m : Int) = PG.G.param ps 1 1) (r : Int) (hr : r = 72 ∨ r = 102) : g.move ((k : Int) - 1) ((m : Int) - 1) = g.csi r ps := by
  unfold PG.G.csi
  rw [← hk, ← hm]
  rcases hr with rfl | rfl <;> simp
theorem csi_m (g : PG.G) (ps : List Int) : ps.foldl PG.G.style g = g.csi 109 ps := by
  unfold PG.G.csi
  simp
theorem csi_h (g : PG.G) (ps : List Int) (r : Int) (hr : r = 104 ∨ r = 108) : (if ps.contains 4 then { g with insert := decide (r = 104) } else g) = g.csi r ps := by
  unfold PG.G.csi
  rcases hr with rfl | rfl <;> simp
theorem csi_edit (g : PG.G) (ps : List Int) (k : Nat) (hk : (k : Int) = PG.G.param ps 0 1) (r : Int) (h : ¬ (r = 65 ∨ r = 70) ∧ ¬ (r = 66 ∨ r = 69) ∧ r ≠ 67 ∧ r ≠ 68 ∧ r ≠ 71 ∧ r ≠ 100 ∧ ¬ (r = 72 ∨ r = 102) ∧ r ≠ 109 ∧ ¬ (r = 104 ∨ r = 108)) : g.edit r ps k = g.csi r ps := by
  unfold PG.G.csi
  obtain ⟨h1, h2, h3, h4, h5, h6, h7, h8, h9⟩ := h
  rw [← hk]
  simp only [if_neg h1, if_neg h2, if_neg h3, if_neg h4, if_neg h5, if_neg h6, if_neg h7, if_neg h8, if_neg h9]

/-- The params of a style, one by one. -/
def StylesRel (w : World) (p : Nat) (F : Nat → Prop) (g : PG.G) (vq : Value) (ps : List Int) (i : Value) (wr : World) : Prop :=
  ∃ (n : Nat) (F' : Nat → Prop), n ≤ ps.length ∧ i = .int .i64 n ∧ GridAt wr p F' ((ps.take n).foldl PG.G.style g) vq ∧ Step F F' w wr

set_option maxRecDepth 20000 in
set_option maxHeartbeats 8000000 in
theorem csi_any {w : World} {p : Nat} {F : Nat → Prop} {g : PG.G} {vq : Value} (h : GridAt w p F g vq) (a : PG.G.Act) (pv : Value) (ob : Option Nat) (hp : ParamsAt w pv a.params ob) (hob : ∀ b, ob = some b → ¬ F b) (hlen : a.params.length ≤ 100000)
    (hps : ∀ x ∈ a.params, 0 ≤ x ∧ x ≤ 9999) :
    Calls Tryd.prog 34 #[.pointer (some ⟨p, 0, none⟩), actVal a pv] w (GPost w p F (g.csi a.rune a.params) vq) := by
  obtain ⟨kind, r, mark, ps⟩ := a
  simp only [actVal] at *
  obtain ⟨pa, pc, rfl⟩ := hp.form
  have H := Lib.hid h
  have HP := Lib.hid hp
  have HPS := Lib.hid hps
  have hrow := h.1.row
  have hcol := h.1.col
  have hbot := h.1.bottom
  have htop := h.1.top
  have hr1 := h.1.r1
  have hr2 := h.1.r2
  have hc2 := h.1.c2
  have hkr := param_range hps 0 (o := 1) (by omega) (by omega)
  obtain ⟨k, hk⟩ : ∃ k : Nat, (k : Int) = PG.G.param ps 0 1 := ⟨(PG.G.param ps 0 1).toNat, by omega⟩
  rw [← hk] at hkr
  have HK := Lib.hid hk
  clear h hp hps hk
  by_cases h65 : r = 65
  · subst h65
    go_enter Tryd.func34, Tryd.ntmps34
    go_wp2_with fail
    refine (params_any _ ⟨kind, 65, mark, ps⟩ _ ob (by exact SlAt.alloc HP.out _) hlen 0 1).mono ?_
    rintro e w1 ⟨rfl, hb1⟩
    rw [← HK.out]
    have hG1 := (H.out.alloc _).below hb1
    have HG1 := Lib.hid hG1
    obtain ⟨_, _, _, _, hb⟩ := hG1.blk
    have c0 := gc_rows hb
    have c3 := gc_row hb
    have c4 := gc_col hb
    have c17 := gc_top hb
    have c18 := gc_bottom hb
    have bx := (Blk.new w 59 #[.int .i64 kind, .int .i32 65, .bool mark, .slice pa ps.length pc]).below hb1 (by simp)
    have x0 := bx.cell 0
    have x1 := bx.cell 1
    have x2 := bx.cell 2
    have x3 := bx.cell 3
    simp only [List.getElem?_toArray, List.getElem?_cons_zero, List.getElem?_cons_succ] at x0 x1 x2 x3
    have hst1 : Step F F w w1 := Step.alloc_left (Step.of_below hb1 (fun _ h => .inl h))
    have HST := Lib.hid hst1
    have HP1 := Lib.hid (show ParamsAt w1 (.slice pa ps.length pc) ps ob from (SlAt.alloc HP.out _).below hb1 (SlAt.alloc HP.out _).lt)
    clear hb1 hG1 bx hst1 hb
    go_wp2_with fail
    go_region
    by_cases ht : g.top ≤ g.at_.row
    · have hti : (g.top : Int) ≤ (g.at_.row : Int) := by omega
      go_wp2_with fail
      all_goals
        refine (move_any (by exact HG1.out.drew) _ _ (by first | omega | (split <;> omega)) (by first | omega | (split <;> omega))).mono ?_
        rintro e w2 ⟨F2, rfl, hG2, hst2⟩
        go_wp2
        go_end0
        refine GPost.cast ?_ ⟨F2, rfl, hG2, HST.out.drew.trans hst2⟩
        refine csi_up g ps k HK.out _ (by simp) _ _ ?_ ?_
        · rw [if_pos ht]; first | omega | (split <;> omega)
        · simp
    · have hti : ¬ (g.top : Int) ≤ (g.at_.row : Int) := by omega
      go_wp2_with fail
      all_goals
        refine (move_any (by exact HG1.out.drew) _ _ (by first | omega | (split <;> omega)) (by first | omega | (split <;> omega))).mono ?_
        rintro e w2 ⟨F2, rfl, hG2, hst2⟩
        go_wp2
        go_end0
        refine GPost.cast ?_ ⟨F2, rfl, hG2, HST.out.drew.trans hst2⟩
        refine csi_up g ps k HK.out _ (by simp) _ _ ?_ ?_
        · rw [if_neg ht]; first | omega | (split <;> omega)
        · simp
  by_cases h70 : r = 70
  · subst h70
    go_enter Tryd.func34, Tryd.ntmps34
    go_wp2_with fail
    refine (params_any _ ⟨kind, 70, mark, ps⟩ _ ob (by exact SlAt.alloc HP.out _) hlen 0 1).mono ?_
    rintro e w1 ⟨rfl, hb1⟩
    rw [← HK.out]
    have hG1 := (H.out.alloc _).below hb1
    have HG1 := Lib.hid hG1
    obtain ⟨_, _, _, _, hb⟩ := hG1.blk
    have c0 := gc_rows hb
    have c3 := gc_row hb
    have c4 := gc_col hb
    have c17 := gc_top hb
    have c18 := gc_bottom hb
    have bx := (Blk.new w 59 #[.int .i64 kind, .int .i32 70, .bool mark, .slice pa ps.length pc]).below hb1 (by simp)
    have x0 := bx.cell 0
    have x1 := bx.cell 1
    have x2 := bx.cell 2
    have x3 := bx.cell 3
    simp only [List.getElem?_toArray, List.getElem?_cons_zero, List.getElem?_cons_succ] at x0 x1 x2 x3
    have hst1 : Step F F w w1 := Step.alloc_left (Step.of_below hb1 (fun _ h => .inl h))
    have HST := Lib.hid hst1
    have HP1 := Lib.hid (show ParamsAt w1 (.slice pa ps.length pc) ps ob from (SlAt.alloc HP.out _).below hb1 (SlAt.alloc HP.out _).lt)
    clear hb1 hG1 bx hst1 hb
    go_wp2_with fail
    go_region
    by_cases ht : g.top ≤ g.at_.row
    · have hti : (g.top : Int) ≤ (g.at_.row : Int) := by omega
      go_wp2_with fail
      all_goals
        refine (move_any (by exact HG1.out.drew) _ _ (by first | omega | (split <;> omega)) (by first | omega | (split <;> omega))).mono ?_
        rintro e w2 ⟨F2, rfl, hG2, hst2⟩
        go_wp2
        go_end0
        refine GPost.cast ?_ ⟨F2, rfl, hG2, HST.out.drew.trans hst2⟩
        refine csi_up g ps k HK.out _ (by simp) _ _ ?_ ?_
        · rw [if_pos ht]; first | omega | (split <;> omega)
        · simp
    · have hti : ¬ (g.top : Int) ≤ (g.at_.row : Int) := by omega
      go_wp2_with fail
      all_goals
        refine (move_any (by exact HG1.out.drew) _ _ (by first | omega | (split <;> omega)) (by first | omega | (split <;> omega))).mono ?_
        rintro e w2 ⟨F2, rfl, hG2, hst2⟩
        go_wp2
        go_end0
        refine GPost.cast ?_ ⟨F2, rfl, hG2, HST.out.drew.trans hst2⟩
        refine csi_up g ps k HK.out _ (by simp) _ _ ?_ ?_
        · rw [if_neg ht]; first | omega | (split <;> omega)
        · simp
  by_cases h66 : r = 66
  · subst h66
    go_enter Tryd.func34, Tryd.ntmps34
    go_wp2_with fail
    refine (params_any _ ⟨kind, 66, mark, ps⟩ _ ob (by exact SlAt.alloc HP.out _) hlen 0 1).mono ?_
    rintro e w1 ⟨rfl, hb1⟩
    rw [← HK.out]
    have hG1 := (H.out.alloc _).below hb1
    have HG1 := Lib.hid hG1
    obtain ⟨_, _, _, _, hb⟩ := hG1.blk
    have c0 := gc_rows hb
    have c3 := gc_row hb
    have c4 := gc_col hb
    have c17 := gc_top hb
    have c18 := gc_bottom hb
    have bx := (Blk.new w 59 #[.int .i64 kind, .int .i32 66, .bool mark, .slice pa ps.length pc]).below hb1 (by simp)
    have x0 := bx.cell 0
    have x1 := bx.cell 1
    have x2 := bx.cell 2
    have x3 := bx.cell 3
    simp only [List.getElem?_toArray, List.getElem?_cons_zero, List.getElem?_cons_succ] at x0 x1 x2 x3
    have hst1 : Step F F w w1 := Step.alloc_left (Step.of_below hb1 (fun _ h => .inl h))
    have HST := Lib.hid hst1
    have HP1 := Lib.hid (show ParamsAt w1 (.slice pa ps.length pc) ps ob from (SlAt.alloc HP.out _).below hb1 (SlAt.alloc HP.out _).lt)
    clear hb1 hG1 bx hst1 hb
    go_wp2_with fail
    go_region
    by_cases ht : g.at_.row ≤ g.bottom
    · have hti : (g.at_.row : Int) ≤ (g.bottom : Int) := by omega
      go_wp2_with fail
      all_goals
        refine (move_any (by exact HG1.out.drew) _ _ (by first | omega | (split <;> omega)) (by first | omega | (split <;> omega))).mono ?_
        rintro e w2 ⟨F2, rfl, hG2, hst2⟩
        go_wp2
        go_end0
        refine GPost.cast ?_ ⟨F2, rfl, hG2, HST.out.drew.trans hst2⟩
        refine csi_down g ps k HK.out _ (by simp) _ _ ?_ ?_
        · rw [if_pos ht]; first | omega | (split <;> omega)
        · simp
    · have hti : ¬ (g.at_.row : Int) ≤ (g.bottom : Int) := by omega
      go_wp2_with fail
      all_goals
        refine (move_any (by exact HG1.out.drew) _ _ (by first | omega | (split <;> omega)) (by first | omega | (split <;> omega))).mono ?_
        rintro e w2 ⟨F2, rfl, hG2, hst2⟩
        go_wp2
        go_end0
        refine GPost.cast ?_ ⟨F2, rfl, hG2, HST.out.drew.trans hst2⟩
        refine csi_down g ps k HK.out _ (by simp) _ _ ?_ ?_
        · rw [if_neg ht]; first | omega | (split <;> omega)
        · simp
  by_cases h69 : r = 69
  · subst h69
    go_enter Tryd.func34, Tryd.ntmps34
    go_wp2_with fail
    refine (params_any _ ⟨kind, 69, mark, ps⟩ _ ob (by exact SlAt.alloc HP.out _) hlen 0 1).mono ?_
    rintro e w1 ⟨rfl, hb1⟩
    rw [← HK.out]
    have hG1 := (H.out.alloc _).below hb1
    have HG1 := Lib.hid hG1
    obtain ⟨_, _, _, _, hb⟩ := hG1.blk
    have c0 := gc_rows hb
    have c3 := gc_row hb
    have c4 := gc_col hb
    have c17 := gc_top hb
    have c18 := gc_bottom hb
    have bx := (Blk.new w 59 #[.int .i64 kind, .int .i32 69, .bool mark, .slice pa ps.length pc]).below hb1 (by simp)
    have x0 := bx.cell 0
    have x1 := bx.cell 1
    have x2 := bx.cell 2
    have x3 := bx.cell 3
    simp only [List.getElem?_toArray, List.getElem?_cons_zero, List.getElem?_cons_succ] at x0 x1 x2 x3
    have hst1 : Step F F w w1 := Step.alloc_left (Step.of_below hb1 (fun _ h => .inl h))
    have HST := Lib.hid hst1
    have HP1 := Lib.hid (show ParamsAt w1 (.slice pa ps.length pc) ps ob from (SlAt.alloc HP.out _).below hb1 (SlAt.alloc HP.out _).lt)
    clear hb1 hG1 bx hst1 hb
    go_wp2_with fail
    go_region
    by_cases ht : g.at_.row ≤ g.bottom
    · have hti : (g.at_.row : Int) ≤ (g.bottom : Int) := by omega
      go_wp2_with fail
      all_goals
        refine (move_any (by exact HG1.out.drew) _ _ (by first | omega | (split <;> omega)) (by first | omega | (split <;> omega))).mono ?_
        rintro e w2 ⟨F2, rfl, hG2, hst2⟩
        go_wp2
        go_end0
        refine GPost.cast ?_ ⟨F2, rfl, hG2, HST.out.drew.trans hst2⟩
        refine csi_down g ps k HK.out _ (by simp) _ _ ?_ ?_
        · rw [if_pos ht]; first | omega | (split <;> omega)
        · simp
    · have hti : ¬ (g.at_.row : Int) ≤ (g.bottom : Int) := by omega
      go_wp2_with fail
      all_goals
        refine (move_any (by exact HG1.out.drew) _ _ (by first | omega | (split <;> omega)) (by first | omega | (split <;> omega))).mono ?_
        rintro e w2 ⟨F2, rfl, hG2, hst2⟩
        go_wp2
        go_end0
        refine GPost.cast ?_ ⟨F2, rfl, hG2, HST.out.drew.trans hst2⟩
        refine csi_down g ps k HK.out _ (by simp) _ _ ?_ ?_
        · rw [if_neg ht]; first | omega | (split <;> omega)
        · simp
  by_cases h67 : r = 67
  · subst h67
    go_enter Tryd.func34, Tryd.ntmps34
    go_wp2_with fail
    refine (params_any _ ⟨kind, 67, mark, ps⟩ _ ob (by exact SlAt.alloc HP.out _) hlen 0 1).mono ?_
    rintro e w1 ⟨rfl, hb1⟩
    rw [← HK.out]
    have hG1 := (H.out.alloc _).below hb1
    have HG1 := Lib.hid hG1
    obtain ⟨_, _, _, _, hb⟩ := hG1.blk
    have c0 := gc_rows hb
    have c3 := gc_row hb
    have c4 := gc_col hb
    have c17 := gc_top hb
    have c18 := gc_bottom hb
    have bx := (Blk.new w 59 #[.int .i64 kind, .int .i32 67, .bool mark, .slice pa ps.length pc]).below hb1 (by simp)
    have x0 := bx.cell 0
    have x1 := bx.cell 1
    have x2 := bx.cell 2
    have x3 := bx.cell 3
    simp only [List.getElem?_toArray, List.getElem?_cons_zero, List.getElem?_cons_succ] at x0 x1 x2 x3
    have hst1 : Step F F w w1 := Step.alloc_left (Step.of_below hb1 (fun _ h => .inl h))
    have HST := Lib.hid hst1
    have HP1 := Lib.hid (show ParamsAt w1 (.slice pa ps.length pc) ps ob from (SlAt.alloc HP.out _).below hb1 (SlAt.alloc HP.out _).lt)
    clear hb1 hG1 bx hst1 hb
    go_wp2_with fail
    go_region
    go_wp2_with fail
    all_goals
      refine (move_any (by exact HG1.out.drew) _ _ (by first | omega | (split <;> omega)) (by first | omega | (split <;> omega))).mono ?_
      rintro e w2 ⟨F2, rfl, hG2, hst2⟩
      go_wp2
      go_end0
      refine GPost.cast ?_ ⟨F2, rfl, hG2, HST.out.drew.trans hst2⟩
      exact csi_C g ps k HK.out
  by_cases h68 : r = 68
  · subst h68
    go_enter Tryd.func34, Tryd.ntmps34
    go_wp2_with fail
    refine (params_any _ ⟨kind, 68, mark, ps⟩ _ ob (by exact SlAt.alloc HP.out _) hlen 0 1).mono ?_
    rintro e w1 ⟨rfl, hb1⟩
    rw [← HK.out]
    have hG1 := (H.out.alloc _).below hb1
    have HG1 := Lib.hid hG1
    obtain ⟨_, _, _, _, hb⟩ := hG1.blk
    have c0 := gc_rows hb
    have c3 := gc_row hb
    have c4 := gc_col hb
    have c17 := gc_top hb
    have c18 := gc_bottom hb
    have bx := (Blk.new w 59 #[.int .i64 kind, .int .i32 68, .bool mark, .slice pa ps.length pc]).below hb1 (by simp)
    have x0 := bx.cell 0
    have x1 := bx.cell 1
    have x2 := bx.cell 2
    have x3 := bx.cell 3
    simp only [List.getElem?_toArray, List.getElem?_cons_zero, List.getElem?_cons_succ] at x0 x1 x2 x3
    have hst1 : Step F F w w1 := Step.alloc_left (Step.of_below hb1 (fun _ h => .inl h))
    have HST := Lib.hid hst1
    have HP1 := Lib.hid (show ParamsAt w1 (.slice pa ps.length pc) ps ob from (SlAt.alloc HP.out _).below hb1 (SlAt.alloc HP.out _).lt)
    clear hb1 hG1 bx hst1 hb
    go_wp2_with fail
    go_region
    go_wp2_with fail
    all_goals
      refine (move_any (by exact HG1.out.drew) _ _ (by first | omega | (split <;> omega)) (by first | omega | (split <;> omega))).mono ?_
      rintro e w2 ⟨F2, rfl, hG2, hst2⟩
      go_wp2
      go_end0
      refine GPost.cast ?_ ⟨F2, rfl, hG2, HST.out.drew.trans hst2⟩
      exact csi_D g ps k HK.out
  by_cases h71 : r = 71
  · subst h71
    go_enter Tryd.func34, Tryd.ntmps34
    go_wp2_with fail
    refine (params_any _ ⟨kind, 71, mark, ps⟩ _ ob (by exact SlAt.alloc HP.out _) hlen 0 1).mono ?_
    rintro e w1 ⟨rfl, hb1⟩
    rw [← HK.out]
    have hG1 := (H.out.alloc _).below hb1
    have HG1 := Lib.hid hG1
    obtain ⟨_, _, _, _, hb⟩ := hG1.blk
    have c0 := gc_rows hb
    have c3 := gc_row hb
    have c4 := gc_col hb
    have c17 := gc_top hb
    have c18 := gc_bottom hb
    have bx := (Blk.new w 59 #[.int .i64 kind, .int .i32 71, .bool mark, .slice pa ps.length pc]).below hb1 (by simp)
    have x0 := bx.cell 0
    have x1 := bx.cell 1
    have x2 := bx.cell 2
    have x3 := bx.cell 3
    simp only [List.getElem?_toArray, List.getElem?_cons_zero, List.getElem?_cons_succ] at x0 x1 x2 x3
    have hst1 : Step F F w w1 := Step.alloc_left (Step.of_below hb1 (fun _ h => .inl h))
    have HST := Lib.hid hst1
    have HP1 := Lib.hid (show ParamsAt w1 (.slice pa ps.length pc) ps ob from (SlAt.alloc HP.out _).below hb1 (SlAt.alloc HP.out _).lt)
    clear hb1 hG1 bx hst1 hb
    go_wp2_with fail
    go_region
    go_wp2_with fail
    all_goals
      refine (move_any (by exact HG1.out.drew) _ _ (by first | omega | (split <;> omega)) (by first | omega | (split <;> omega))).mono ?_
      rintro e w2 ⟨F2, rfl, hG2, hst2⟩
      go_wp2
      go_end0
      refine GPost.cast ?_ ⟨F2, rfl, hG2, HST.out.drew.trans hst2⟩
      exact csi_G g ps k HK.out
  by_cases h100 : r = 100
  · subst h100
    go_enter Tryd.func34, Tryd.ntmps34
    go_wp2_with fail
    refine (params_any _ ⟨kind, 100, mark, ps⟩ _ ob (by exact SlAt.alloc HP.out _) hlen 0 1).mono ?_
    rintro e w1 ⟨rfl, hb1⟩
    rw [← HK.out]
    have hG1 := (H.out.alloc _).below hb1
    have HG1 := Lib.hid hG1
    obtain ⟨_, _, _, _, hb⟩ := hG1.blk
    have c0 := gc_rows hb
    have c3 := gc_row hb
    have c4 := gc_col hb
    have c17 := gc_top hb
    have c18 := gc_bottom hb
    have bx := (Blk.new w 59 #[.int .i64 kind, .int .i32 100, .bool mark, .slice pa ps.length pc]).below hb1 (by simp)
    have x0 := bx.cell 0
    have x1 := bx.cell 1
    have x2 := bx.cell 2
    have x3 := bx.cell 3
    simp only [List.getElem?_toArray, List.getElem?_cons_zero, List.getElem?_cons_succ] at x0 x1 x2 x3
    have hst1 : Step F F w w1 := Step.alloc_left (Step.of_below hb1 (fun _ h => .inl h))
    have HST := Lib.hid hst1
    have HP1 := Lib.hid (show ParamsAt w1 (.slice pa ps.length pc) ps ob from (SlAt.alloc HP.out _).below hb1 (SlAt.alloc HP.out _).lt)
    clear hb1 hG1 bx hst1 hb
    go_wp2_with fail
    go_region
    go_wp2_with fail
    all_goals
      refine (move_any (by exact HG1.out.drew) _ _ (by first | omega | (split <;> omega)) (by first | omega | (split <;> omega))).mono ?_
      rintro e w2 ⟨F2, rfl, hG2, hst2⟩
      go_wp2
      go_end0
      refine GPost.cast ?_ ⟨F2, rfl, hG2, HST.out.drew.trans hst2⟩
      exact csi_d g ps k HK.out
  by_cases h72 : r = 72
  · subst h72
    go_enter Tryd.func34, Tryd.ntmps34
    go_wp2_with fail
    refine (params_any _ ⟨kind, 72, mark, ps⟩ _ ob (by exact SlAt.alloc HP.out _) hlen 0 1).mono ?_
    rintro e w1 ⟨rfl, hb1⟩
    rw [← HK.out]
    have hG1 := (H.out.alloc _).below hb1
    have HG1 := Lib.hid hG1
    obtain ⟨_, _, _, _, hb⟩ := hG1.blk
    have c0 := gc_rows hb
    have c3 := gc_row hb
    have c4 := gc_col hb
    have c17 := gc_top hb
    have c18 := gc_bottom hb
    have bx := (Blk.new w 59 #[.int .i64 kind, .int .i32 72, .bool mark, .slice pa ps.length pc]).below hb1 (by simp)
    have x0 := bx.cell 0
    have x1 := bx.cell 1
    have x2 := bx.cell 2
    have x3 := bx.cell 3
    simp only [List.getElem?_toArray, List.getElem?_cons_zero, List.getElem?_cons_succ] at x0 x1 x2 x3
    have hst1 : Step F F w w1 := Step.alloc_left (Step.of_below hb1 (fun _ h => .inl h))
    have HST := Lib.hid hst1
    have HP1 := Lib.hid (show ParamsAt w1 (.slice pa ps.length pc) ps ob from (SlAt.alloc HP.out _).below hb1 (SlAt.alloc HP.out _).lt)
    clear hb1 hG1 bx hst1 hb
    go_wp2_with fail
    go_region
    have hmr := param_range HPS.out 1 (o := 1) (by omega) (by omega)
    obtain ⟨m, hm⟩ : ∃ m : Nat, (m : Int) = PG.G.param ps 1 1 := ⟨(PG.G.param ps 1 1).toNat, by omega⟩
    rw [← hm] at hmr
    have HM := Lib.hid hm
    clear hm
    go_wp2_with fail
    refine (params_any _ ⟨kind, 72, mark, ps⟩ _ ob (by exact HP1.out.drew) hlen 1 1).mono ?_
    rintro e w2 ⟨rfl, hb2⟩
    rw [← HM.out]
    have HB2 := Lib.hid hb2
    clear hb2
    go_wp2_with fail
    refine (move_any (by exact HG1.out.drew.below HB2.out) _ _ (by omega) (by omega)).mono ?_
    rintro e w3 ⟨F3, rfl, hG3, hst3⟩
    go_wp2
    go_end0
    refine GPost.cast ?_ ⟨F3, rfl, hG3, (HST.out.drew.trans (Step.of_below (F := F) (F1 := F) HB2.out (fun _ h => .inl h))).trans hst3⟩
    exact csi_H g ps k m HK.out HM.out _ (by simp)
  by_cases h102 : r = 102
  · subst h102
    go_enter Tryd.func34, Tryd.ntmps34
    go_wp2_with fail
    refine (params_any _ ⟨kind, 102, mark, ps⟩ _ ob (by exact SlAt.alloc HP.out _) hlen 0 1).mono ?_
    rintro e w1 ⟨rfl, hb1⟩
    rw [← HK.out]
    have hG1 := (H.out.alloc _).below hb1
    have HG1 := Lib.hid hG1
    obtain ⟨_, _, _, _, hb⟩ := hG1.blk
    have c0 := gc_rows hb
    have c3 := gc_row hb
    have c4 := gc_col hb
    have c17 := gc_top hb
    have c18 := gc_bottom hb
    have bx := (Blk.new w 59 #[.int .i64 kind, .int .i32 102, .bool mark, .slice pa ps.length pc]).below hb1 (by simp)
    have x0 := bx.cell 0
    have x1 := bx.cell 1
    have x2 := bx.cell 2
    have x3 := bx.cell 3
    simp only [List.getElem?_toArray, List.getElem?_cons_zero, List.getElem?_cons_succ] at x0 x1 x2 x3
    have hst1 : Step F F w w1 := Step.alloc_left (Step.of_below hb1 (fun _ h => .inl h))
    have HST := Lib.hid hst1
    have HP1 := Lib.hid (show ParamsAt w1 (.slice pa ps.length pc) ps ob from (SlAt.alloc HP.out _).below hb1 (SlAt.alloc HP.out _).lt)
    clear hb1 hG1 bx hst1 hb
    go_wp2_with fail
    go_region
    have hmr := param_range HPS.out 1 (o := 1) (by omega) (by omega)
    obtain ⟨m, hm⟩ : ∃ m : Nat, (m : Int) = PG.G.param ps 1 1 := ⟨(PG.G.param ps 1 1).toNat, by omega⟩
    rw [← hm] at hmr
    have HM := Lib.hid hm
    clear hm
    go_wp2_with fail
    refine (params_any _ ⟨kind, 102, mark, ps⟩ _ ob (by exact HP1.out.drew) hlen 1 1).mono ?_
    rintro e w2 ⟨rfl, hb2⟩
    rw [← HM.out]
    have HB2 := Lib.hid hb2
    clear hb2
    go_wp2_with fail
    refine (move_any (by exact HG1.out.drew.below HB2.out) _ _ (by omega) (by omega)).mono ?_
    rintro e w3 ⟨F3, rfl, hG3, hst3⟩
    go_wp2
    go_end0
    refine GPost.cast ?_ ⟨F3, rfl, hG3, (HST.out.drew.trans (Step.of_below (F := F) (F1 := F) HB2.out (fun _ h => .inl h))).trans hst3⟩
    exact csi_H g ps k m HK.out HM.out _ (by simp)
  by_cases h109 : r = 109
  · subst h109
    go_enter Tryd.func34, Tryd.ntmps34
    go_wp2_with fail
    refine (params_any _ ⟨kind, 109, mark, ps⟩ _ ob (by exact SlAt.alloc HP.out _) hlen 0 1).mono ?_
    rintro e w1 ⟨rfl, hb1⟩
    rw [← HK.out]
    have hG1 := (H.out.alloc _).below hb1
    have HG1 := Lib.hid hG1
    obtain ⟨_, _, _, _, hb⟩ := hG1.blk
    have c0 := gc_rows hb
    have c3 := gc_row hb
    have c4 := gc_col hb
    have c17 := gc_top hb
    have c18 := gc_bottom hb
    have bx := (Blk.new w 59 #[.int .i64 kind, .int .i32 109, .bool mark, .slice pa ps.length pc]).below hb1 (by simp)
    have x0 := bx.cell 0
    have x1 := bx.cell 1
    have x2 := bx.cell 2
    have x3 := bx.cell 3
    simp only [List.getElem?_toArray, List.getElem?_cons_zero, List.getElem?_cons_succ] at x0 x1 x2 x3
    have hst1 : Step F F w w1 := Step.alloc_left (Step.of_below hb1 (fun _ h => .inl h))
    have HST := Lib.hid hst1
    have HP1 := Lib.hid (show ParamsAt w1 (.slice pa ps.length pc) ps ob from (SlAt.alloc HP.out _).below hb1 (SlAt.alloc HP.out _).lt)
    clear hb1 hG1 bx hst1 hb
    go_wp2_with fail
    go_region
    go_wp2_with fail
    go_loopw [10, 129] (fun _ i wr => StylesRel w1.drew p F g vq ps i wr) (fun _ i _ => ps.length - (intOf i).toNat)
    case atStart => exact ⟨0, F, Nat.zero_le _, rfl, HG1.out.drew, Step.refl _ _⟩
    case round =>
      obtain ⟨n, F3, hn, rfl, hG3, hst3⟩ := hrel
      by_cases hlt : n < ps.length
      · have hli : (n : Int) < (ps.length : Int) := by omega
        have hl0 : (0 : Int) ≤ (n : Int) := by omega
        obtain ⟨pb, po, pc', e1, e2, hcell, hpb⟩ := HP1.out.cell hlt
        cases e1
        have hcell2 := hst3.cell (a := ⟨pb, po + n, none⟩) hcell (hob _ e2)
        obtain ⟨q, hq⟩ : ∃ q, q = ps[n] := ⟨_, rfl⟩
        rw [← hq] at hcell2
        have hqr : 0 ≤ q ∧ q ≤ 9999 := by rw [hq]; exact HPS.out _ (List.getElem_mem hlt)
        have hsnoc : (ps.take (n + 1)).foldl PG.G.style g = PG.G.style ((ps.take n).foldl PG.G.style g) q := by
          rw [List.take_succ_eq_append_getElem hlt, List.foldl_append, hq]; rfl
        have HS := Lib.hid hsnoc
        have H3 := Lib.hid (And.intro hG3 hst3)
        clear hG3 hst3 hsnoc hq hcell e2
        go_wp2_with fail
        refine (style_any (by exact H3.out.1) q (by omega)).mono ?_
        rintro e w4 ⟨F4, rfl, hG4, hst4⟩
        go_wp2
        go_simp
        go_roundw
        case rel => exact ⟨n + 1, F4, by omega, by go_num, by rw [HS.out]; exact hG4, H3.out.2.trans hst4⟩
        case measure => simp [intOf]; omega
      · have hli : ¬ (n : Int) < (ps.length : Int) := by omega
        have H3 := Lib.hid (And.intro hG3 hst3)
        clear hG3 hst3
        go_wp2
        go_end0
        have e : ps.take n = ps := List.take_of_length_le (by omega)
        refine GPost.cast ?_ ⟨F3, rfl, H3.out.1, HST.out.drew.trans H3.out.2⟩
        rw [e]
        exact csi_m g ps
  by_cases h104 : r = 104
  · subst h104
    go_enter Tryd.func34, Tryd.ntmps34
    go_wp2_with fail
    refine (params_any _ ⟨kind, 104, mark, ps⟩ _ ob (by exact SlAt.alloc HP.out _) hlen 0 1).mono ?_
    rintro e w1 ⟨rfl, hb1⟩
    rw [← HK.out]
    have hG1 := (H.out.alloc _).below hb1
    have HG1 := Lib.hid hG1
    obtain ⟨_, _, _, _, hb⟩ := hG1.blk
    have c0 := gc_rows hb
    have c3 := gc_row hb
    have c4 := gc_col hb
    have c17 := gc_top hb
    have c18 := gc_bottom hb
    have bx := (Blk.new w 59 #[.int .i64 kind, .int .i32 104, .bool mark, .slice pa ps.length pc]).below hb1 (by simp)
    have x0 := bx.cell 0
    have x1 := bx.cell 1
    have x2 := bx.cell 2
    have x3 := bx.cell 3
    simp only [List.getElem?_toArray, List.getElem?_cons_zero, List.getElem?_cons_succ] at x0 x1 x2 x3
    have hst1 : Step F F w w1 := Step.alloc_left (Step.of_below hb1 (fun _ h => .inl h))
    have HST := Lib.hid hst1
    have HP1 := Lib.hid (show ParamsAt w1 (.slice pa ps.length pc) ps ob from (SlAt.alloc HP.out _).below hb1 (SlAt.alloc HP.out _).lt)
    clear hb1 hG1 bx hst1 hb
    go_wp2_with fail
    go_region
    obtain ⟨_, _, _, _, hb⟩ := HG1.out.blk
    have f20 := hb.frozen 20
    have c20 := gc_insert hb
    clear hb
    go_wp2_with fail
    refine (contains_ints _ ps _ ob (by exact HP1.out.drew) hlen 4).mono ?_
    rintro e w2 ⟨rfl, rfl⟩
    cases hcc : ps.contains 4
    · go_wp2
      go_end0
      refine GPost.cast ?_ ⟨F, rfl, HG1.out.drew, HST.out.drew⟩
      rw [← csi_h g ps _ (by simp), hcc]
      rfl
    · go_wp2
      go_end0
      have h8 := HG1.out.scalar (g' := { g with insert := true }) (w' := (w1.setCell ⟨p, 20, none⟩ (.bool true)).drew) { HG1.out.1 with } (fun vc vt vo vp hb => on_ex ⟨_, ((On.refl hb).set 20 _).drew, by simp [gcells]⟩) rfl rfl rfl rfl
      refine GPost.cast ?_ ⟨F, rfl, h8.1, HST.out.trans h8.2⟩
      rw [← csi_h g ps _ (by simp), hcc]
      simp
  by_cases h108 : r = 108
  · subst h108
    go_enter Tryd.func34, Tryd.ntmps34
    go_wp2_with fail
    refine (params_any _ ⟨kind, 108, mark, ps⟩ _ ob (by exact SlAt.alloc HP.out _) hlen 0 1).mono ?_
    rintro e w1 ⟨rfl, hb1⟩
    rw [← HK.out]
    have hG1 := (H.out.alloc _).below hb1
    have HG1 := Lib.hid hG1
    obtain ⟨_, _, _, _, hb⟩ := hG1.blk
    have c0 := gc_rows hb
    have c3 := gc_row hb
    have c4 := gc_col hb
    have c17 := gc_top hb
    have c18 := gc_bottom hb
    have bx := (Blk.new w 59 #[.int .i64 kind, .int .i32 108, .bool mark, .slice pa ps.length pc]).below hb1 (by simp)
    have x0 := bx.cell 0
    have x1 := bx.cell 1
    have x2 := bx.cell 2
    have x3 := bx.cell 3
    simp only [List.getElem?_toArray, List.getElem?_cons_zero, List.getElem?_cons_succ] at x0 x1 x2 x3
    have hst1 : Step F F w w1 := Step.alloc_left (Step.of_below hb1 (fun _ h => .inl h))
    have HST := Lib.hid hst1
    have HP1 := Lib.hid (show ParamsAt w1 (.slice pa ps.length pc) ps ob from (SlAt.alloc HP.out _).below hb1 (SlAt.alloc HP.out _).lt)
    clear hb1 hG1 bx hst1 hb
    go_wp2_with fail
    go_region
    obtain ⟨_, _, _, _, hb⟩ := HG1.out.blk
    have f20 := hb.frozen 20
    have c20 := gc_insert hb
    clear hb
    go_wp2_with fail
    refine (contains_ints _ ps _ ob (by exact HP1.out.drew) hlen 4).mono ?_
    rintro e w2 ⟨rfl, rfl⟩
    cases hcc : ps.contains 4
    · go_wp2
      go_end0
      refine GPost.cast ?_ ⟨F, rfl, HG1.out.drew, HST.out.drew⟩
      rw [← csi_h g ps _ (by simp), hcc]
      rfl
    · go_wp2
      go_end0
      have h8 := HG1.out.scalar (g' := { g with insert := false }) (w' := (w1.setCell ⟨p, 20, none⟩ (.bool false)).drew) { HG1.out.1 with } (fun vc vt vo vp hb => on_ex ⟨_, ((On.refl hb).set 20 _).drew, by simp [gcells]⟩) rfl rfl rfl rfl
      refine GPost.cast ?_ ⟨F, rfl, h8.1, HST.out.trans h8.2⟩
      rw [← csi_h g ps _ (by simp), hcc]
      simp
  · have b65 : (r == 65) = false := by simpa using h65
    have b70 : (r == 70) = false := by simpa using h70
    have b66 : (r == 66) = false := by simpa using h66
    have b69 : (r == 69) = false := by simpa using h69
    have b67 : (r == 67) = false := by simpa using h67
    have b68 : (r == 68) = false := by simpa using h68
    have b71 : (r == 71) = false := by simpa using h71
    have b100 : (r == 100) = false := by simpa using h100
    have b72 : (r == 72) = false := by simpa using h72
    have b102 : (r == 102) = false := by simpa using h102
    have b109 : (r == 109) = false := by simpa using h109
    have b104 : (r == 104) = false := by simpa using h104
    have b108 : (r == 108) = false := by simpa using h108
    go_enter Tryd.func34, Tryd.ntmps34
    go_wp2_with fail
    refine (params_any _ ⟨kind, r, mark, ps⟩ _ ob (by exact SlAt.alloc HP.out _) hlen 0 1).mono ?_
    rintro e w1 ⟨rfl, hb1⟩
    rw [← HK.out]
    have hG1 := (H.out.alloc _).below hb1
    have HG1 := Lib.hid hG1
    obtain ⟨_, _, _, _, hb⟩ := hG1.blk
    have c0 := gc_rows hb
    have c3 := gc_row hb
    have c4 := gc_col hb
    have c17 := gc_top hb
    have c18 := gc_bottom hb
    have bx := (Blk.new w 59 #[.int .i64 kind, .int .i32 r, .bool mark, .slice pa ps.length pc]).below hb1 (by simp)
    have x0 := bx.cell 0
    have x1 := bx.cell 1
    have x2 := bx.cell 2
    have x3 := bx.cell 3
    simp only [List.getElem?_toArray, List.getElem?_cons_zero, List.getElem?_cons_succ] at x0 x1 x2 x3
    have hst1 : Step F F w w1 := Step.alloc_left (Step.of_below hb1 (fun _ h => .inl h))
    have HST := Lib.hid hst1
    have HP1 := Lib.hid (show ParamsAt w1 (.slice pa ps.length pc) ps ob from (SlAt.alloc HP.out _).below hb1 (SlAt.alloc HP.out _).lt)
    clear hb1 hG1 bx hst1 hb
    go_wp2_with fail
    go_region
    have he := csi_edit g ps k HK.out r (by omega)
    have HE := Lib.hid he
    clear he
    go_wp2_with fail
    refine (edit_any (by exact HG1.out.drew) ⟨kind, r, mark, ps⟩ _ ob (by exact HP1.out.drew) hob hlen HPS.out k (by omega)).mono ?_
    rintro e w2 ⟨F2, rfl, hG2, hst2⟩
    go_wp2
    go_end0
    exact GPost.cast HE.out ⟨F2, rfl, hG2, HST.out.drew.trans hst2⟩

end Go.Proofs.YtdbepelcgmnbbaaDoor
