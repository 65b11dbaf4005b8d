/- What is there is edited. -/
import Derived.Test.YtdbepelcgmnbbaaDoorTabs
namespace Go.Proofs.YtdbepelcgmnbbaaDoor
open Go Go.RowKit

theorem param_range {ps : List Int} (h : ∀ x ∈ ps, 0 ≤ x ∧ x ≤ 9999) (i : Nat) {o : Int} (h1 : 1 ≤ o) (h2 : o ≤ 9999) : 1 ≤ PG.G.param ps i o ∧ PG.G.param ps i o ≤ 9999 := by
  unfold PG.G.param
  split
  · exact ⟨h1, h2⟩
  · rename_i hne
    rw [List.getD_eq_getElem?_getD] at hne ⊢
    cases hg : ps[i]? with
    | none => rw [hg] at hne; exact absurd rfl hne
    | some x =>
      rw [hg] at hne
      have := h x (List.mem_of_getElem? hg)
      simp only [Option.getD_some] at hne ⊢
      omega

theorem Tryd.infoBool : (Tryd.prog.info? 4).map (fun i => (i.zero, i.size, i.bytes)) = some (some (.bool false), 1, 1) := by kernel_rfl
theorem madeCells_false (n : Nat) : (madeCells (Value.bool false).cells (n * 1)).toList = (List.replicate n false).map Value.bool := by
  apply List.ext_getElem?
  intro k
  by_cases h : k < n
  · simp [madeCells, Value.cells, h, Nat.mod_one]
  · rw [List.getElem?_eq_none (by simp [madeCells]; omega), List.getElem?_eq_none (by simp; omega)]

set_option maxRecDepth 20000 in
set_option maxHeartbeats 8000000 in
theorem edit_any {w : World} {p : Nat} {F : Nat → Prop} {g : PG.G} {vq : Value} (h : GridAt w p F g vq) (a : PG.G.Act) (pv : Value) (ob : Option Nat) (hp : ParamsAt w pv a.params ob) (hob : ∀ b, ob = some b → ¬ F b) (hlen : a.params.length ≤ 100000)
    (hps : ∀ x ∈ a.params, 0 ≤ x ∧ x ≤ 9999) (n : Nat) (hn : n ≤ 99999) :
    Calls Tryd.prog 54 #[.pointer (some ⟨p, 0, none⟩), actVal a pv, .int .i64 n] w (GPost w p F (g.edit a.rune a.params n) vq) := by
  obtain ⟨kind, r, mark, ps⟩ := a
  simp only [actVal] at *
  obtain ⟨pa, pc, rfl⟩ := hp.form
  have H := Lib.hid h
  have HP := Lib.hid hp
  have HPS := Lib.hid hps
  have hrow := h.1.row
  have hbot := h.1.bottom
  have htop := h.1.top
  have hr2 := h.1.r2
  have hc2 := h.1.c2
  clear h hp hps
  by_cases h74 : r = 74
  · subst h74
    go_enter Tryd.func54, Tryd.ntmps54
    go_wp2_with fail
    refine (params_any _ ⟨kind, 74, mark, ps⟩ _ ob (by exact SlAt.alloc HP.out _) hlen 0 0).mono ?_
    rintro e w1 ⟨rfl, hb1⟩
    have hG1 := (H.out.alloc _).below hb1
    have HB1 := Lib.hid hb1
    have HG1 := Lib.hid hG1
    have bx := (Blk.new w 59 #[.int .i64 kind, .int .i32 74, .bool mark, .slice pa ps.length pc]).below hb1 (by simp)
    have x0 := bx.cell 0
    have x1 := bx.cell 1
    have x2 := bx.cell 2
    have x3 := bx.cell 3
    simp only [List.getElem?_toArray, List.getElem?_cons_zero, List.getElem?_cons_succ] at x0 x1 x2 x3
    obtain ⟨k, hk⟩ : ∃ k, k = PG.G.param ps 0 0 := ⟨_, rfl⟩
    rw [← hk]
    have HK := Lib.hid hk
    have hst1 : Step F F w w1 := Step.alloc_left (Step.of_below hb1 (fun _ h => .inl h))
    have HST := Lib.hid hst1
    clear hb1 hG1 bx hk hst1
    go_wp2_with fail
    refine (erase_any (by exact HG1.out) k).mono ?_
    rintro e w2 ⟨F2, rfl, hG2, hst2⟩
    go_wp2
    go_end0
    have e : g.edit 74 ps n = g.erase k := by
      rw [HK.out]
      unfold PG.G.edit
      simp
    rw [e]
    exact ⟨F2, rfl, hG2, HST.out.trans hst2⟩
  by_cases h75 : r = 75
  · subst h75
    go_enter Tryd.func54, Tryd.ntmps54
    go_wp2_with fail
    refine (params_any _ ⟨kind, 75, mark, ps⟩ _ ob (by exact SlAt.alloc HP.out _) hlen 0 0).mono ?_
    rintro e w1 ⟨rfl, hb1⟩
    have hG1 := (H.out.alloc _).below hb1
    have HB1 := Lib.hid hb1
    have HG1 := Lib.hid hG1
    have bx := (Blk.new w 59 #[.int .i64 kind, .int .i32 75, .bool mark, .slice pa ps.length pc]).below hb1 (by simp)
    have x0 := bx.cell 0
    have x1 := bx.cell 1
    have x2 := bx.cell 2
    have x3 := bx.cell 3
    simp only [List.getElem?_toArray, List.getElem?_cons_zero, List.getElem?_cons_succ] at x0 x1 x2 x3
    obtain ⟨k, hk⟩ : ∃ k, k = PG.G.param ps 0 0 := ⟨_, rfl⟩
    rw [← hk]
    have HK := Lib.hid hk
    have hst1 : Step F F w w1 := Step.alloc_left (Step.of_below hb1 (fun _ h => .inl h))
    have HST := Lib.hid hst1
    clear hb1 hG1 bx hk hst1
    go_wp2_with fail
    refine (eraseLine_any (by exact HG1.out) k).mono ?_
    rintro e w2 ⟨F2, rfl, hG2, hst2⟩
    go_wp2
    go_end0
    have e : g.edit 75 ps n = g.eraseLine k := by
      rw [HK.out]
      unfold PG.G.edit
      simp
    rw [e]
    exact ⟨F2, rfl, hG2, HST.out.trans hst2⟩
  by_cases h64 : r = 64
  · subst h64
    go_enter Tryd.func54, Tryd.ntmps54
    go_wp2_with fail
    refine (params_any _ ⟨kind, 64, mark, ps⟩ _ ob (by exact SlAt.alloc HP.out _) hlen 0 0).mono ?_
    rintro e w1 ⟨rfl, hb1⟩
    have hG1 := (H.out.alloc _).below hb1
    have HB1 := Lib.hid hb1
    have HG1 := Lib.hid hG1
    have bx := (Blk.new w 59 #[.int .i64 kind, .int .i32 64, .bool mark, .slice pa ps.length pc]).below hb1 (by simp)
    have x0 := bx.cell 0
    have x1 := bx.cell 1
    have x2 := bx.cell 2
    have x3 := bx.cell 3
    simp only [List.getElem?_toArray, List.getElem?_cons_zero, List.getElem?_cons_succ] at x0 x1 x2 x3
    obtain ⟨k, hk⟩ : ∃ k, k = PG.G.param ps 0 0 := ⟨_, rfl⟩
    rw [← hk]
    have HK := Lib.hid hk
    have hst1 : Step F F w w1 := Step.alloc_left (Step.of_below hb1 (fun _ h => .inl h))
    have HST := Lib.hid hst1
    clear hb1 hG1 bx hk hst1
    go_wp2_with fail
    refine (cut_any (by exact HG1.out) 64 n (by omega)).mono ?_
    rintro e w2 ⟨F2, rfl, hG2, hst2⟩
    go_wp2
    go_end0
    have e : g.edit 64 ps n = g.cut 64 n := by
      unfold PG.G.edit
      simp
    rw [e]
    exact ⟨F2, rfl, hG2, HST.out.trans hst2⟩
  by_cases h80 : r = 80
  · subst h80
    go_enter Tryd.func54, Tryd.ntmps54
    go_wp2_with fail
    refine (params_any _ ⟨kind, 80, mark, ps⟩ _ ob (by exact SlAt.alloc HP.out _) hlen 0 0).mono ?_
    rintro e w1 ⟨rfl, hb1⟩
    have hG1 := (H.out.alloc _).below hb1
    have HB1 := Lib.hid hb1
    have HG1 := Lib.hid hG1
    have bx := (Blk.new w 59 #[.int .i64 kind, .int .i32 80, .bool mark, .slice pa ps.length pc]).below hb1 (by simp)
    have x0 := bx.cell 0
    have x1 := bx.cell 1
    have x2 := bx.cell 2
    have x3 := bx.cell 3
    simp only [List.getElem?_toArray, List.getElem?_cons_zero, List.getElem?_cons_succ] at x0 x1 x2 x3
    obtain ⟨k, hk⟩ : ∃ k, k = PG.G.param ps 0 0 := ⟨_, rfl⟩
    rw [← hk]
    have HK := Lib.hid hk
    have hst1 : Step F F w w1 := Step.alloc_left (Step.of_below hb1 (fun _ h => .inl h))
    have HST := Lib.hid hst1
    clear hb1 hG1 bx hk hst1
    go_wp2_with fail
    refine (cut_any (by exact HG1.out) 80 n (by omega)).mono ?_
    rintro e w2 ⟨F2, rfl, hG2, hst2⟩
    go_wp2
    go_end0
    have e : g.edit 80 ps n = g.cut 80 n := by
      unfold PG.G.edit
      simp
    rw [e]
    exact ⟨F2, rfl, hG2, HST.out.trans hst2⟩
  by_cases h88 : r = 88
  · subst h88
    go_enter Tryd.func54, Tryd.ntmps54
    go_wp2_with fail
    refine (params_any _ ⟨kind, 88, mark, ps⟩ _ ob (by exact SlAt.alloc HP.out _) hlen 0 0).mono ?_
    rintro e w1 ⟨rfl, hb1⟩
    have hG1 := (H.out.alloc _).below hb1
    have HB1 := Lib.hid hb1
    have HG1 := Lib.hid hG1
    have bx := (Blk.new w 59 #[.int .i64 kind, .int .i32 88, .bool mark, .slice pa ps.length pc]).below hb1 (by simp)
    have x0 := bx.cell 0
    have x1 := bx.cell 1
    have x2 := bx.cell 2
    have x3 := bx.cell 3
    simp only [List.getElem?_toArray, List.getElem?_cons_zero, List.getElem?_cons_succ] at x0 x1 x2 x3
    obtain ⟨k, hk⟩ : ∃ k, k = PG.G.param ps 0 0 := ⟨_, rfl⟩
    rw [← hk]
    have HK := Lib.hid hk
    have hst1 : Step F F w w1 := Step.alloc_left (Step.of_below hb1 (fun _ h => .inl h))
    have HST := Lib.hid hst1
    clear hb1 hG1 bx hk hst1
    go_wp2_with fail
    refine (cut_any (by exact HG1.out) 88 n (by omega)).mono ?_
    rintro e w2 ⟨F2, rfl, hG2, hst2⟩
    go_wp2
    go_end0
    have e : g.edit 88 ps n = g.cut 88 n := by
      unfold PG.G.edit
      simp
    rw [e]
    exact ⟨F2, rfl, hG2, HST.out.trans hst2⟩
  by_cases h83 : r = 83
  · subst h83
    go_enter Tryd.func54, Tryd.ntmps54
    go_wp2_with fail
    refine (params_any _ ⟨kind, 83, mark, ps⟩ _ ob (by exact SlAt.alloc HP.out _) hlen 0 0).mono ?_
    rintro e w1 ⟨rfl, hb1⟩
    have hG1 := (H.out.alloc _).below hb1
    have HB1 := Lib.hid hb1
    have HG1 := Lib.hid hG1
    have bx := (Blk.new w 59 #[.int .i64 kind, .int .i32 83, .bool mark, .slice pa ps.length pc]).below hb1 (by simp)
    have x0 := bx.cell 0
    have x1 := bx.cell 1
    have x2 := bx.cell 2
    have x3 := bx.cell 3
    simp only [List.getElem?_toArray, List.getElem?_cons_zero, List.getElem?_cons_succ] at x0 x1 x2 x3
    obtain ⟨k, hk⟩ : ∃ k, k = PG.G.param ps 0 0 := ⟨_, rfl⟩
    rw [← hk]
    have HK := Lib.hid hk
    have hst1 : Step F F w w1 := Step.alloc_left (Step.of_below hb1 (fun _ h => .inl h))
    have HST := Lib.hid hst1
    clear hb1 hG1 bx hk hst1
    go_wp2_with fail
    refine (up_any (by exact HG1.out) n (by omega)).mono ?_
    rintro e w2 ⟨F2, rfl, hG2, hst2⟩
    go_wp2
    go_end0
    have e : g.edit 83 ps n = g.up n := by
      unfold PG.G.edit
      simp
    rw [e]
    exact ⟨F2, rfl, hG2, HST.out.trans hst2⟩
  by_cases h84 : r = 84
  · subst h84
    go_enter Tryd.func54, Tryd.ntmps54
    go_wp2_with fail
    refine (params_any _ ⟨kind, 84, mark, ps⟩ _ ob (by exact SlAt.alloc HP.out _) hlen 0 0).mono ?_
    rintro e w1 ⟨rfl, hb1⟩
    have hG1 := (H.out.alloc _).below hb1
    have HB1 := Lib.hid hb1
    have HG1 := Lib.hid hG1
    have bx := (Blk.new w 59 #[.int .i64 kind, .int .i32 84, .bool mark, .slice pa ps.length pc]).below hb1 (by simp)
    have x0 := bx.cell 0
    have x1 := bx.cell 1
    have x2 := bx.cell 2
    have x3 := bx.cell 3
    simp only [List.getElem?_toArray, List.getElem?_cons_zero, List.getElem?_cons_succ] at x0 x1 x2 x3
    obtain ⟨k, hk⟩ : ∃ k, k = PG.G.param ps 0 0 := ⟨_, rfl⟩
    rw [← hk]
    have HK := Lib.hid hk
    have hst1 : Step F F w w1 := Step.alloc_left (Step.of_below hb1 (fun _ h => .inl h))
    have HST := Lib.hid hst1
    clear hb1 hG1 bx hk hst1
    go_wp2_with fail
    refine (down_any (by exact HG1.out) n (by omega)).mono ?_
    rintro e w2 ⟨F2, rfl, hG2, hst2⟩
    go_wp2
    go_end0
    have e : g.edit 84 ps n = g.down n := by
      unfold PG.G.edit
      simp
    rw [e]
    exact ⟨F2, rfl, hG2, HST.out.trans hst2⟩
  by_cases h76 : r = 76
  · subst h76
    go_enter Tryd.func54, Tryd.ntmps54
    go_wp2_with fail
    refine (params_any _ ⟨kind, 76, mark, ps⟩ _ ob (by exact SlAt.alloc HP.out _) hlen 0 0).mono ?_
    rintro e w1 ⟨rfl, hb1⟩
    have hG1 := (H.out.alloc _).below hb1
    have HB1 := Lib.hid hb1
    have HG1 := Lib.hid hG1
    have bx := (Blk.new w 59 #[.int .i64 kind, .int .i32 76, .bool mark, .slice pa ps.length pc]).below hb1 (by simp)
    have x0 := bx.cell 0
    have x1 := bx.cell 1
    have x2 := bx.cell 2
    have x3 := bx.cell 3
    simp only [List.getElem?_toArray, List.getElem?_cons_zero, List.getElem?_cons_succ] at x0 x1 x2 x3
    obtain ⟨k, hk⟩ : ∃ k, k = PG.G.param ps 0 0 := ⟨_, rfl⟩
    rw [← hk]
    have HK := Lib.hid hk
    have hst1 : Step F F w w1 := Step.alloc_left (Step.of_below hb1 (fun _ h => .inl h))
    have HST := Lib.hid hst1
    clear hb1 hG1 bx hk hst1
    obtain ⟨_, _, _, _, hb⟩ := HG1.out.blk
    have c3 := gc_row hb
    have c17 := gc_top hb
    have c18 := gc_bottom hb
    clear hb
    by_cases hlo : g.at_.row < g.top
    · have hli : (g.at_.row : Int) < (g.top : Int) := by omega
      go_wp2
      go_region
      go_wp2
      go_end0
      have e : g.edit 76 ps n = g := by unfold PG.G.edit; simp [hlo]
      rw [e]
      exact ⟨F, rfl, HG1.out.drew, HST.out.drew⟩
    have hli : ¬ (g.at_.row : Int) < (g.top : Int) := by omega
    by_cases hhi : g.bottom < g.at_.row
    · have hlj : (g.bottom : Int) < (g.at_.row : Int) := by omega
      go_wp2
      go_region
      go_wp2
      go_end0
      have e : g.edit 76 ps n = g := by unfold PG.G.edit; simp [hhi]
      rw [e]
      exact ⟨F, rfl, HG1.out.drew, HST.out.drew⟩
    · have hlj : ¬ (g.bottom : Int) < (g.at_.row : Int) := by omega
      go_wp2
      go_region
      go_wp2_with fail
      refine (put_any (by exact HG1.out.drew) g.at_.row n (by omega) (by omega)).mono ?_
      rintro e w2 ⟨F2, rfl, hG2, hst2⟩
      obtain ⟨_, _, _, _, hb⟩ := hG2.blk
      have d3 : w2.cell? ⟨p, 3, none⟩ = some (.int .i64 g.at_.row) := gc_row hb
      have H2 := Lib.hid (And.intro hG2 hst2)
      clear hG2 hst2 hb
      go_wp2_with fail
      refine (move_any (by exact H2.out.1) g.at_.row 0 (by omega) (by omega)).mono ?_
      rintro e w3 ⟨F3, rfl, hG3, hst3⟩
      go_wp2
      go_end0
      have e : g.edit 76 ps n = (g.put g.at_.row n).move g.at_.row 0 := by unfold PG.G.edit; simp [hlo, hhi]
      rw [e]
      exact ⟨F3, rfl, hG3, HST.out.drew.trans (H2.out.2.trans hst3)⟩
  by_cases h77 : r = 77
  · subst h77
    go_enter Tryd.func54, Tryd.ntmps54
    go_wp2_with fail
    refine (params_any _ ⟨kind, 77, mark, ps⟩ _ ob (by exact SlAt.alloc HP.out _) hlen 0 0).mono ?_
    rintro e w1 ⟨rfl, hb1⟩
    have hG1 := (H.out.alloc _).below hb1
    have HB1 := Lib.hid hb1
    have HG1 := Lib.hid hG1
    have bx := (Blk.new w 59 #[.int .i64 kind, .int .i32 77, .bool mark, .slice pa ps.length pc]).below hb1 (by simp)
    have x0 := bx.cell 0
    have x1 := bx.cell 1
    have x2 := bx.cell 2
    have x3 := bx.cell 3
    simp only [List.getElem?_toArray, List.getElem?_cons_zero, List.getElem?_cons_succ] at x0 x1 x2 x3
    obtain ⟨k, hk⟩ : ∃ k, k = PG.G.param ps 0 0 := ⟨_, rfl⟩
    rw [← hk]
    have HK := Lib.hid hk
    have hst1 : Step F F w w1 := Step.alloc_left (Step.of_below hb1 (fun _ h => .inl h))
    have HST := Lib.hid hst1
    clear hb1 hG1 bx hk hst1
    obtain ⟨_, _, _, _, hb⟩ := HG1.out.blk
    have c3 := gc_row hb
    have c17 := gc_top hb
    have c18 := gc_bottom hb
    clear hb
    by_cases hlo : g.at_.row < g.top
    · have hli : (g.at_.row : Int) < (g.top : Int) := by omega
      go_wp2
      go_region
      go_wp2
      go_end0
      have e : g.edit 77 ps n = g := by unfold PG.G.edit; simp [hlo]
      rw [e]
      exact ⟨F, rfl, HG1.out.drew, HST.out.drew⟩
    have hli : ¬ (g.at_.row : Int) < (g.top : Int) := by omega
    by_cases hhi : g.bottom < g.at_.row
    · have hlj : (g.bottom : Int) < (g.at_.row : Int) := by omega
      go_wp2
      go_region
      go_wp2
      go_end0
      have e : g.edit 77 ps n = g := by unfold PG.G.edit; simp [hhi]
      rw [e]
      exact ⟨F, rfl, HG1.out.drew, HST.out.drew⟩
    · have hlj : ¬ (g.bottom : Int) < (g.at_.row : Int) := by omega
      go_wp2
      go_region
      go_wp2_with fail
      refine (take_any (by exact HG1.out.drew) g.at_.row n (by omega) (by omega)).mono ?_
      rintro e w2 ⟨F2, rfl, hG2, hst2⟩
      obtain ⟨_, _, _, _, hb⟩ := hG2.blk
      have d3 : w2.cell? ⟨p, 3, none⟩ = some (.int .i64 g.at_.row) := gc_row hb
      have H2 := Lib.hid (And.intro hG2 hst2)
      clear hG2 hst2 hb
      go_wp2_with fail
      refine (move_any (by exact H2.out.1) g.at_.row 0 (by omega) (by omega)).mono ?_
      rintro e w3 ⟨F3, rfl, hG3, hst3⟩
      go_wp2
      go_end0
      have e : g.edit 77 ps n = (g.take g.at_.row n).move g.at_.row 0 := by unfold PG.G.edit; simp [hlo, hhi]
      rw [e]
      exact ⟨F3, rfl, hG3, HST.out.drew.trans (H2.out.2.trans hst3)⟩
  by_cases h114 : r = 114
  · subst h114
    go_enter Tryd.func54, Tryd.ntmps54
    go_wp2_with fail
    refine (params_any _ ⟨kind, 114, mark, ps⟩ _ ob (by exact SlAt.alloc HP.out _) hlen 0 0).mono ?_
    rintro e w1 ⟨rfl, hb1⟩
    have hG1 := (H.out.alloc _).below hb1
    have HB1 := Lib.hid hb1
    have HG1 := Lib.hid hG1
    have bx := (Blk.new w 59 #[.int .i64 kind, .int .i32 114, .bool mark, .slice pa ps.length pc]).below hb1 (by simp)
    have x0 := bx.cell 0
    have x1 := bx.cell 1
    have x2 := bx.cell 2
    have x3 := bx.cell 3
    simp only [List.getElem?_toArray, List.getElem?_cons_zero, List.getElem?_cons_succ] at x0 x1 x2 x3
    obtain ⟨k, hk⟩ : ∃ k, k = PG.G.param ps 0 0 := ⟨_, rfl⟩
    rw [← hk]
    have HK := Lib.hid hk
    have hst1 : Step F F w w1 := Step.alloc_left (Step.of_below hb1 (fun _ h => .inl h))
    have HST := Lib.hid hst1
    clear hb1 hG1 bx hk hst1
    obtain ⟨_, _, _, _, hb⟩ := HG1.out.blk
    have c0 := gc_rows hb
    have hpl := hb.lt
    have hxl : w.heap.size < w1.heap.size := World.block_lt_of_cell? w1 _ x0
    have hr1 := H.out.1.r1
    have P1 : ParamsAt w1 (.slice pa ps.length pc) ps ob := (SlAt.alloc HP.out _).below HB1.out (SlAt.alloc HP.out _).lt
    have HP1 := Lib.hid P1
    obtain ⟨q1, hq1⟩ : ∃ q1, q1 = PG.G.param ps 0 1 := ⟨_, rfl⟩
    obtain ⟨q2, hq2⟩ : ∃ q2, q2 = PG.G.param ps 1 g.rows := ⟨_, rfl⟩
    have hq1b : 1 ≤ q1 ∧ q1 ≤ 9999 := by rw [hq1]; exact param_range HPS.out 0 (by omega) (by omega)
    have hq2b : 1 ≤ q2 ∧ q2 ≤ 9999 := by rw [hq2]; exact param_range HPS.out 1 (by omega) (by omega)
    have hp1 : PG.G.param ps 0 1 = q1 := hq1.symm
    have hp2 : PG.G.param ps 1 (g.rows : Int) = q2 := hq2.symm
    have HQ := Lib.hid (And.intro hq1 hq2)
    clear hq1 hq2
    obtain ⟨B, hB⟩ : ∃ B, (if (g.rows : Int) - 1 < q2 - 1 then (g.rows : Int) - 1 else q2 - 1) = B := ⟨_, rfl⟩
    have hB' : (if (g.rows : Int) < q2 then (g.rows : Int) - 1 else q2 - 1) = B := by rw [← hB]; split <;> split <;> omega
    have hw1 : IntKind.i64.wrap (q1 - 1) = q1 - 1 := IntWalk.i64_in _ (by omega)
    have hw2 : IntKind.i64.wrap (q2 - 1) = q2 - 1 := IntWalk.i64_in _ (by omega)
    have hw3 : IntKind.i64.wrap ((g.rows : Int) - 1) = (g.rows : Int) - 1 := IntWalk.i64_in _ (by omega)
    clear hb P1
    go_wp2_with fail
    go_region_held3 (fun w' => w'.cell? ⟨p, 0, none⟩ = some (.int .i64 g.rows) ∧ w'.cell? ⟨w.heap.size, 0, none⟩ = some (.int .i64 kind) ∧ w'.cell? ⟨w.heap.size, 1, none⟩ = some (.int .i32 114) ∧ w'.cell? ⟨w.heap.size, 2, none⟩ = some (.bool mark) ∧ w'.cell? ⟨w.heap.size, 3, none⟩ = some (.slice pa ps.length pc)) (go_keep) (first
      | (have _g := y0; go_at_call 51; refine (params_any _ ⟨kind, 114, mark, ps⟩ _ ob (by exact HP2.out) hlen 1 g.rows).mono ?_; rintro e w3 ⟨rfl, hb3⟩; have u0 : w3.cell? ⟨p, 0, none⟩ = some (.int .i64 g.rows) := (hb3.cell (p := ⟨p, 0, none⟩) (World.block_lt_of_cell? w2 _ y0)).trans y0; have v0 := (hb3.cell (p := ⟨w.heap.size, 0, none⟩) (World.block_lt_of_cell? w2 _ z0)).trans z0; have v1 := (hb3.cell (p := ⟨w.heap.size, 1, none⟩) (World.block_lt_of_cell? w2 _ z1)).trans z1; have v2 := (hb3.cell (p := ⟨w.heap.size, 2, none⟩) (World.block_lt_of_cell? w2 _ z2)).trans z2; have v3 := (hb3.cell (p := ⟨w.heap.size, 3, none⟩) (World.block_lt_of_cell? w2 _ z3)).trans z3; have HB3 := Lib.hid hb3; clear hb3)
      | (go_at_call 51; refine (params_any _ ⟨kind, 114, mark, ps⟩ _ ob (by exact HP1.out) hlen 0 1).mono ?_; rintro e w2 ⟨rfl, hb2⟩; have y0 : w2.cell? ⟨p, 0, none⟩ = some (.int .i64 g.rows) := (hb2.cell (p := ⟨p, 0, none⟩) hpl).trans c0; have z0 := (hb2.cell (p := ⟨w.heap.size, 0, none⟩) hxl).trans x0; have z1 := (hb2.cell (p := ⟨w.heap.size, 1, none⟩) hxl).trans x1; have z2 := (hb2.cell (p := ⟨w.heap.size, 2, none⟩) hxl).trans x2; have z3 := (hb2.cell (p := ⟨w.heap.size, 3, none⟩) hxl).trans x3; have HB2 := Lib.hid hb2; have HP2 := Lib.hid (show ParamsAt w2 (.slice pa ps.length pc) ps ob from SlAt.below (w := w1.drew) HP1.out hb2 HP1.out.lt); clear hb2))
    have hb3 := HB3.out
    have hG3 := (HG1.out.drew.below HB2.out).below hb3
    have hst3 : Step F F w w3 := (HST.out.drew.trans (Step.of_below (F := F) (F1 := F) HB2.out (fun _ h => .inl h))).trans (Step.of_below (F := F) (F1 := F) hb3 (fun _ h => .inl h))
    have H3 := Lib.hid (And.intro hG3 hst3)
    obtain ⟨_, _, _, _, hb⟩ := hG3.blk
    have c17 := gc_top hb
    have c18 := gc_bottom hb
    have f17 := hb.frozen 17
    have f18 := hb.frozen 18
    clear hb hb3 hG3 hst3
    have hBm : B = min (q2 - 1) ((g.rows : Int) - 1) := by rw [← hB]; split <;> omega
    by_cases hlt : q1 - 1 < B
    · have ht1 : ((q1 - 1).toNat : Int) = q1 - 1 := by omega
      have ht2 : (B.toNat : Int) = B := by omega
      have e : g.edit 114 ps n = PG.G.move { g with top := (q1 - 1).toNat, bottom := B.toNat } 0 0 := by
        unfold PG.G.edit
        simp only [hp1, hp2, ← hBm]
        simp [hlt]
      have hI' : PG.G.Inv { g with top := (q1 - 1).toNat, bottom := B.toNat } := { H3.out.1.1 with
        top := by show (q1 - 1).toNat ≤ B.toNat; omega
        bottom := by show B.toNat < g.rows; omega }
      have HE := Lib.hid (And.intro e (And.intro ht1 (And.intro ht2 hI')))
      clear e ht1 ht2 hI' hBm
      go_wp2_with fail
      have h8 := H3.out.1.scalar (g' := { g with top := (q1 - 1).toNat, bottom := B.toNat }) (w' := (w3.setCell ⟨p, 17, none⟩ (.int .i64 (q1 - 1))).setCell ⟨p, 18, none⟩ (.int .i64 B)) HE.out.2.2.2 (fun vc vt vo vp hb => on_ex ⟨_, ((On.refl hb).set 17 _).set 18 _, by simp [gcells, HE.out.2.2.1]; omega⟩) rfl rfl rfl rfl
      refine (move_any (by exact h8.1) 0 0 (by omega) (by omega)).mono ?_
      rintro e w5 ⟨F5, rfl, hG5, hst5⟩
      go_wp2
      go_end0
      rw [HE.out.1]
      exact ⟨F5, rfl, hG5, H3.out.2.trans (h8.2.trans hst5)⟩
    · have e : g.edit 114 ps n = g := by
        unfold PG.G.edit
        simp only [hp1, hp2, ← hBm]
        simp [hlt]
      have HE := Lib.hid e
      clear e hBm
      go_wp2
      go_end0
      rw [HE.out]
      exact ⟨F, rfl, H3.out.1, H3.out.2⟩
  by_cases h103 : r = 103
  · subst h103
    go_enter Tryd.func54, Tryd.ntmps54
    go_wp2_with fail
    refine (params_any _ ⟨kind, 103, mark, ps⟩ _ ob (by exact SlAt.alloc HP.out _) hlen 0 0).mono ?_
    rintro e w1 ⟨rfl, hb1⟩
    have hG1 := (H.out.alloc _).below hb1
    have HB1 := Lib.hid hb1
    have HG1 := Lib.hid hG1
    have bx := (Blk.new w 59 #[.int .i64 kind, .int .i32 103, .bool mark, .slice pa ps.length pc]).below hb1 (by simp)
    have x0 := bx.cell 0
    have x1 := bx.cell 1
    have x2 := bx.cell 2
    have x3 := bx.cell 3
    simp only [List.getElem?_toArray, List.getElem?_cons_zero, List.getElem?_cons_succ] at x0 x1 x2 x3
    obtain ⟨k, hk⟩ : ∃ k, k = PG.G.param ps 0 0 := ⟨_, rfl⟩
    rw [← hk]
    have HK := Lib.hid hk
    have hst1 : Step F F w w1 := Step.alloc_left (Step.of_below hb1 (fun _ h => .inl h))
    have HST := Lib.hid hst1
    clear hb1 hG1 bx hk hst1
    obtain ⟨hI, hF, vc, vt, vo, vp, bc, bt, bo, bp, rc, ro, rp, hM, hfoot⟩ := HG1.out
    have hb := hM.blk
    have hcol := hI.col
    have htl := hI.tabs
    have c1 := gc_cols hb
    have c4 := gc_col hb
    have hT := hM.tabs
    rw [htl] at hT
    obtain ⟨tb, to, tc, cur, rfl, rfl, hB, htc, htsz, _⟩ := hT.some_ (hT.ob_ (by omega))
    have c22 := gc_tabs hb
    have f22 := hb.frozen 22
    by_cases hk0 : k = 0
    · subst hk0
      have i1 : (0 : Int) ≤ (g.at_.col : Int) := by omega
      have i2 : (g.at_.col : Int) < (g.cols : Int) := by omega
      have ct := (hB.cell (to + g.at_.col)).trans (Array.getElem?_eq_getElem (by omega))
      have ft := hB.frozen (to + g.at_.col)
      have e : g.edit 103 ps n = { g with tabs := g.tabs.set g.at_.col false } := by
        unfold PG.G.edit
        simp [← HK.out]
      have hI' : PG.G.Inv { g with tabs := g.tabs.set g.at_.col false } := hI.withTabs (by rw [List.length_set]; exact htl)
      have HE := Lib.hid (And.intro e (And.intro hI' (And.intro hM (And.intro hT (And.intro hB (And.intro hF hfoot))))))
      clear e hI' hM hT hF hfoot
      go_wp2
      go_region
      go_wp2
      go_end0
      obtain ⟨e, hI', hM, hT, hB, hF, hfoot⟩ := HE.out
      rw [e]
      have hB2 : Blk (w1.setCell ⟨tb, to + g.at_.col, none⟩ (.bool false)).drew tb 4 (laidOver cur (to + g.at_.col) [.bool false]) := (hB.set_ (to + g.at_.col) (.bool false)).drew
      have hgr : w1.grownBy (w1.setCell ⟨tb, to + g.at_.col, none⟩ (.bool false)).drew (some tb) := ((On.refl hB).set (to + g.at_.col) (.bool false)).drew.2
      have hT2 := hT.laid (cs := [.bool false]) hB g.at_.col (by simp [htl]; exact hcol) hB2
      rw [show over (g.tabs.map Value.bool) g.at_.col [.bool false] = (g.tabs.set g.at_.col false).map Value.bool by
        rw [List.map_set]; unfold over; rw [List.set_eq_take_append_cons_drop, if_pos (by simp [htl]; exact hcol)]; simp] at hT2
      have htp : tb ≠ p := fun e => by subst e; exact (hb.ne_ hB (by decide)) rfl
      have hM2 := hM.newtabs (g' := { g with tabs := g.tabs.set g.at_.col false }) (hb.same (hgr.block p hb.lt (fun e => htp (Option.some.inj e).symm))) (fun b hb' _ hn => hgr.block b hb' (fun e => hn (by rw [e]))) (by rw [List.length_set, htl]; exact hT2) rfl rfl rfl
      exact ⟨F, rfl, ⟨hI', fun b hb => Nat.lt_of_lt_of_le (hF b hb) hgr.size, _, _, _, _, _, _, _, _, _, _, _, hM2, hfoot⟩, HST.out.trans (Step.of_grown hgr (hfoot tb (.inr (.inr (.inl rfl)))))⟩
    · have hkb : (k == 0) = false := by simpa using hk0
      by_cases hk3 : k = 3
      · subst hk3
        obtain ⟨i0, hi, hz0, hz1, hz2⟩ := info_parts Tryd.infoBool
        have hmk := fun W => run_make_rowN (P := Tryd.prog) 50 4 i0 _ Tryd.underlying50 hi hz0 .i64 .i64 g.cols g.cols (Nat.le_refl _) (by rw [hz2]; omega) (by omega) W
        rw [hz1] at hmk
        obtain ⟨z, hzz⟩ : ∃ z, z = madeCells (Value.bool false).cells (g.cols * 1) := ⟨_, rfl⟩
        rw [← hzz] at hmk
        have e : g.edit 103 ps n = { g with tabs := List.replicate g.cols false } := by
          unfold PG.G.edit
          simp [← HK.out]
        have hI' : PG.G.Inv { g with tabs := List.replicate g.cols false } := hI.withTabs (by simp)
        have HE := Lib.hid (And.intro e (And.intro hI' (And.intro hM (And.intro hF (And.intro hfoot hzz)))))
        clear e hI' hM hT hF hfoot hzz hi hz0 hz1 hz2
        have hpl := hb.lt
        go_wp2
        go_end0
        obtain ⟨e, hI', hM, hF, hfoot, hzz⟩ := HE.out
        rw [e]
        obtain ⟨W, hW⟩ : ∃ W, W = (w1.setCell ⟨p, 22, none⟩ (.slice (some ⟨w1.heap.size, 0, none⟩) g.cols g.cols)).alloc (.cells z 4) := ⟨_, rfl⟩
        rw [← hW]
        have hon : On w1 W p 52 (gcells { g with tabs := List.replicate g.cols false } vc (.slice (some ⟨w1.heap.size, 0, none⟩) g.cols g.cols) vo vp vq) := by
          rw [hW]
          exact on_ex ⟨_, ((On.refl hb).set 22 _).alloc _, by simp [gcells]⟩
        have hBz : Blk W w1.heap.size 4 z := by
          rw [hW]
          exact Blk.new_at (by simp)
        have hzl : z.toList = (List.replicate g.cols false).map Value.bool := by rw [hzz]; exact madeCells_false _
        have hzs : z.size = g.cols := by rw [← Array.length_toList, hzl]; simp
        have hT2 : SlAt W 4 1 (.slice (some ⟨w1.heap.size, 0, none⟩) g.cols g.cols) (List.replicate g.cols false).length ((List.replicate g.cols false).map Value.bool) (some w1.heap.size) := by
          rw [List.length_replicate]
          refine ⟨by simp, .inr ⟨w1.heap.size, 0, g.cols, z, rfl, rfl, hBz, Nat.le_refl _, by omega, fun i x hx => ?_⟩⟩
          rw [← hzl] at hx
          simpa using hx
        have hM2 := hM.newtabs (g' := { g with tabs := List.replicate g.cols false }) hon.1 (fun b hb' hn _ => hon.2.block b hb' (fun e => hn (Option.some.inj e))) hT2 rfl rfl rfl
        refine GPost.trans HST.out (gpost_mem hI' hM2 (Step.of_on hon (hfoot p (.inl rfl))) (fun b hb => ?_))
        rcases hb with hb | hb | hb | hb | hb | hb | hb | hb
        · exact .inl (hfoot b (.inl hb))
        · exact .inl (hfoot b (.inr (.inl hb)))
        · cases hb; exact .inr (Nat.le_refl _)
        · exact .inl (hfoot b (.inr (.inr (.inr (.inl hb)))))
        · exact .inl (hfoot b (.inr (.inr (.inr (.inr (.inl hb))))))
        · exact .inl (hfoot b (.inr (.inr (.inr (.inr (.inr (.inl hb)))))))
        · exact .inl (hfoot b (.inr (.inr (.inr (.inr (.inr (.inr (.inl hb))))))))
        · exact .inl (hfoot b (.inr (.inr (.inr (.inr (.inr (.inr (.inr hb))))))))
      · have hkc : (k == 3) = false := by simpa using hk3
        have e : g.edit 103 ps n = g := by
          unfold PG.G.edit
          simp [← HK.out, hk0, hk3]
        have HE := Lib.hid (And.intro e (And.intro hI (And.intro hM (And.intro hF hfoot))))
        clear e hI hM hT hF hfoot
        go_wp2
        go_end0
        obtain ⟨e, hI, hM, hF, hfoot⟩ := HE.out
        rw [e]
        exact ⟨F, rfl, ⟨hI, hF, _, _, _, _, _, _, _, _, _, _, _, hM, hfoot⟩, HST.out⟩
  · have b74 : (r == 74) = false := by simpa using h74
    have b75 : (r == 75) = false := by simpa using h75
    have b76 : (r == 76) = false := by simpa using h76
    have b77 : (r == 77) = false := by simpa using h77
    have b64 : (r == 64) = false := by simpa using h64
    have b80 : (r == 80) = false := by simpa using h80
    have b88 : (r == 88) = false := by simpa using h88
    have b83 : (r == 83) = false := by simpa using h83
    have b84 : (r == 84) = false := by simpa using h84
    have b114 : (r == 114) = false := by simpa using h114
    have b103 : (r == 103) = false := by simpa using h103
    go_enter Tryd.func54, Tryd.ntmps54
    go_wp2_with fail
    refine (params_any _ ⟨kind, r, mark, ps⟩ _ ob (by exact SlAt.alloc HP.out _) hlen 0 0).mono ?_
    rintro e w1 ⟨rfl, hb1⟩
    have hG1 := (H.out.alloc _).below hb1
    have HG1 := Lib.hid hG1
    have bx := (Blk.new w 59 #[.int .i64 kind, .int .i32 r, .bool mark, .slice pa ps.length pc]).below hb1 (by simp)
    have x1 := bx.cell 1
    simp only [List.getElem?_toArray, List.getElem?_cons_zero, List.getElem?_cons_succ] at x1
    have hst1 : Step F F w w1 := Step.alloc_left (Step.of_below hb1 (fun _ h => .inl h))
    have HST := Lib.hid hst1
    clear hb1 hG1 bx hst1
    go_wp2
    go_end0
    have e : g.edit r ps n = g := by unfold PG.G.edit; simp [h74, h75, h76, h77, h64, h80, h88, h83, h84, h114, h103]
    rw [e]
    exact ⟨F, rfl, HG1.out, HST.out⟩

end Go.Proofs.YtdbepelcgmnbbaaDoor
