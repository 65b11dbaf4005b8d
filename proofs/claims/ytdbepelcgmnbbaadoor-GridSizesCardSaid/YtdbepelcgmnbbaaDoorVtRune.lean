/- A rune is told. -/
import Derived.Test.YtdbepelcgmnbbaaDoorVtCsi
namespace Go.Proofs.YtdbepelcgmnbbaaDoor
open Go Go.RowKit

set_option maxRecDepth 20000 in
set_option maxHeartbeats 8000000 in
theorem rune_any {w : World} {q d : Nat} {F : Nat → Prop} {s : PV.P} (h : RunAt w q F s d) (r : Int) :
    Calls Tryd.prog 29 #[.pointer (some ⟨q, 0, none⟩), .int .i32 r] w (RunPost w q F d (PV.rune s r)) := by
  have H := Lib.hid h
  obtain ⟨vp0, hb⟩ := h.blk
  have c1 := pc_state hb
  have f1 := hb.frozen 1
  have hpl := hb.lt
  clear h hb
  have fin : ∀ (s' : PV.P) (a : PG.G.Act) (ok : Bool) (W : World), PV.rune s r = (s', a, ok) → s'.params = s.params → a.params = [] → (∀ vp, Blk w q 72 (pcells s d vp) → On w W q 72 (pcells s' d vp)) →
      RunPost w q F d (PV.rune s r) (.returned (.tuple #[.agg #[.int .i64 a.kind, .int .i32 a.rune, .bool a.mark, .slice none 0 0], .bool ok])) W := by
    intro s' a ok W e he ha ho
    have hI := PV.rune_inv H.out.1 r
    rw [e] at hI ⊢
    exact runpost_scalar H.out hI he ho a ha ok
  have FIN := Lib.hid fin
  clear fin
  obtain ⟨st, hst⟩ : ∃ st, st = s.state := ⟨_, rfl⟩
  rw [← hst] at c1
  have HST := Lib.hid hst
  clear hst
  by_cases h27 : r = 27
  · subst h27
    by_cases h4 : st = 4
    · subst h4
      go_enter Tryd.func29, Tryd.ntmps29
      go_wp2
      refine bodyPost_ret (v := .tuple #[.agg #[.int .i64 0, .int .i32 0, .bool false, .slice none 0 0], .bool false]) (by simp [results, Tryd.results29, go_sem]) rfl (FIN.out { s with state := 5 } PV.noAct false _ (by unfold PV.rune; rw [if_pos rfl, if_pos HST.out.symm]) rfl rfl (fun vp hb => ?_))
      (refine on_ex ?_; apply Exists.intro; apply And.intro; (repeat (first | with_reducible apply On.set | with_reducible apply On.drew | with_reducible apply On.alloc | (with_reducible refine On.other ?_ hb.lt (by simp) _))); exact On.refl hb; simp [pcells])
    · have b4 : (st == 4) = false := by simpa using h4
      have b5 : (st != 4) = true := by simpa using h4
      have H4 := Lib.hid h4
      clear h4
      go_enter Tryd.func29, Tryd.ntmps29
      go_wp2
      refine bodyPost_ret (v := .tuple #[.agg #[.int .i64 0, .int .i32 0, .bool false, .slice none 0 0], .bool false]) (by simp [results, Tryd.results29, go_sem]) rfl (FIN.out { s with state := 1 } PV.noAct false _ (by unfold PV.rune; rw [if_pos rfl, if_neg (by rw [← HST.out]; exact H4.out)]) rfl rfl (fun vp hb => ?_))
      (refine on_ex ?_; apply Exists.intro; apply And.intro; (repeat (first | with_reducible apply On.set | with_reducible apply On.drew | with_reducible apply On.alloc | (with_reducible refine On.other ?_ hb.lt (by simp) _))); exact On.refl hb; simp [pcells])
  have b27 : (r == 27) = false := by simpa using h27
  have H27 := Lib.hid h27
  clear h27
  by_cases hs1 : st = 1
  · subst hs1
    go_enter Tryd.func29, Tryd.ntmps29
    go_wp2_with fail
    refine (escaped_any (by exact H.out.alloc _) r).mono ?_
    rintro e w2 ⟨pv, ob, F', rfl, hP, hob, hR, hst2⟩
    have hE : PV.rune s r = (PV.escaped s r) := by unfold PV.rune; rw [if_neg H27.out, if_pos HST.out.symm]
    have HE := Lib.hid hE
    obtain ⟨pa, pk, rfl⟩ := ParamsAt.form hP
    have Bx : Blk w2 w.heap.size 59 #[.int .i64 0, .int .i32 0, .bool false, .slice none 0 0] := hst2.blk (Blk.new _ _ _) (fun h => by have := H.out.2.1 _ h; omega)
    have hso : ob ≠ some w.heap.size := fun e => by have := (hob _ e).1; simp at this; omega
    have H2 := Lib.hid (And.intro hP (And.intro hob (And.intro hR (And.intro hst2 (And.intro Bx hso)))))
    have x0 : w2.cell? ⟨w.heap.size, 0, none⟩ = some (.int .i64 0) := Bx.cell 0
    have x1 : w2.cell? ⟨w.heap.size, 1, none⟩ = some (.int .i32 0) := Bx.cell 1
    have x2 : w2.cell? ⟨w.heap.size, 2, none⟩ = some (.bool false) := Bx.cell 2
    have x3 : w2.cell? ⟨w.heap.size, 3, none⟩ = some (.slice none 0 0) := Bx.cell 3
    have y0 := Bx.frozen 0
    have y1 := Bx.frozen 1
    have y2 := Bx.frozen 2
    have y3 := Bx.frozen 3
    clear hP hob hR hst2 Bx hso hE
    simp only [actVal]
    go_wp2
    refine bodyPost_ret (v := .tuple #[actVal (PV.escaped s r).2.1 (.slice pa (PV.escaped s r).2.1.params.length pk), .bool (PV.escaped s r).2.2]) (by simp [actVal, results, Tryd.results29, go_sem, x0, x1, x2, x3]) rfl ?_
    rw [HE.out]
    obtain ⟨hP, hob, hR, hst2, Bx, hso⟩ := H2.out
    refine ⟨_, ob, F', rfl, ?_, fun b e => ⟨by have := (hob b e).1; simp at this; omega, (hob b e).2⟩, ?_, ?_⟩
    · unfold ParamsAt at hP ⊢
      ((repeat (first | with_reducible apply SlAt.drew | with_reducible apply SlAt.alloc | (with_reducible refine SlAt.far ?_ (by first | assumption | (simp; done) | (simp; assumption) | (simp; omega)) _))); exact hP)
    · have hx : ∀ b, F' b → b ≠ w.heap.size := fun b hb e => by
        rcases hst2.sub b hb with h | h
        · have := H.out.2.1 b h; omega
        · simp at h; omega
      obtain ⟨h1, h2, vp, op, h3, h4, h5, h6⟩ := hR
      have hqx : q ≠ w.heap.size := hx q h5
      have hox : op ≠ some w.heap.size := fun e => hx _ (h6 _ e) rfl
      refine ⟨h1, fun b hb => by simpa using h2 b hb, vp, op, ?_, ?_, h5, h6⟩
      · (refine blk_ex ?_; apply Exists.intro; apply And.intro; (repeat (first | with_reducible apply Blk.drew | with_reducible apply Blk.alloc | with_reducible apply Blk.set_ | (with_reducible apply Blk.far_; · first | (simp; done) | (simp; assumption) | (simp; omega)))); exact h3; simp [pcells])
      · ((repeat (first | with_reducible apply SlAt.drew | with_reducible apply SlAt.alloc | (with_reducible refine SlAt.far ?_ (by first | assumption | (simp; done) | (simp; assumption) | (simp; omega)) _))); exact h4)
    · have h9 : Step F F' w w2 := Step.alloc_left hst2
      ((repeat (first | with_reducible apply Step.drew | with_reducible apply Step.alloc | (with_reducible apply Step.setNew; · simp))); exact h9)
  have bs1 : (st == 1) = false := by simpa using hs1
  by_cases hs2 : st = 2
  · subst hs2
    go_enter Tryd.func29, Tryd.ntmps29
    go_wp2
    refine bodyPost_ret (v := .tuple #[.agg #[.int .i64 0, .int .i32 0, .bool false, .slice none 0 0], .bool false]) (by simp [results, Tryd.results29, go_sem]) rfl (FIN.out { s with state := 0 } PV.noAct false _ (by unfold PV.rune; rw [if_neg H27.out, if_neg (by rw [← HST.out]; omega), if_pos HST.out.symm]) rfl rfl (fun vp hb => ?_))
    (refine on_ex ?_; apply Exists.intro; apply And.intro; (repeat (first | with_reducible apply On.set | with_reducible apply On.drew | with_reducible apply On.alloc | (with_reducible refine On.other ?_ hb.lt (by simp) _))); exact On.refl hb; simp [pcells])
  have bs2 : (st == 2) = false := by simpa using hs2
  by_cases hs3 : st = 3
  · subst hs3
    go_enter Tryd.func29, Tryd.ntmps29
    go_wp2_with fail
    refine (vtcsi_any (by exact H.out.alloc _) HST.out.symm r).mono ?_
    rintro e w2 ⟨pv, ob, F', rfl, hP, hob, hR, hst2⟩
    have hE : PV.rune s r = (PV.csi s r) := by unfold PV.rune; rw [if_neg H27.out, if_neg (by rw [← HST.out]; omega), if_neg (by rw [← HST.out]; omega), if_pos HST.out.symm]
    have HE := Lib.hid hE
    obtain ⟨pa, pk, rfl⟩ := ParamsAt.form hP
    have Bx : Blk w2 w.heap.size 59 #[.int .i64 0, .int .i32 0, .bool false, .slice none 0 0] := hst2.blk (Blk.new _ _ _) (fun h => by have := H.out.2.1 _ h; omega)
    have hso : ob ≠ some w.heap.size := fun e => by have := (hob _ e).1; simp at this; omega
    have H2 := Lib.hid (And.intro hP (And.intro hob (And.intro hR (And.intro hst2 (And.intro Bx hso)))))
    have x0 : w2.cell? ⟨w.heap.size, 0, none⟩ = some (.int .i64 0) := Bx.cell 0
    have x1 : w2.cell? ⟨w.heap.size, 1, none⟩ = some (.int .i32 0) := Bx.cell 1
    have x2 : w2.cell? ⟨w.heap.size, 2, none⟩ = some (.bool false) := Bx.cell 2
    have x3 : w2.cell? ⟨w.heap.size, 3, none⟩ = some (.slice none 0 0) := Bx.cell 3
    have y0 := Bx.frozen 0
    have y1 := Bx.frozen 1
    have y2 := Bx.frozen 2
    have y3 := Bx.frozen 3
    clear hP hob hR hst2 Bx hso hE
    simp only [actVal]
    go_wp2
    refine bodyPost_ret (v := .tuple #[actVal (PV.csi s r).2.1 (.slice pa (PV.csi s r).2.1.params.length pk), .bool (PV.csi s r).2.2]) (by simp [actVal, results, Tryd.results29, go_sem, x0, x1, x2, x3]) rfl ?_
    rw [HE.out]
    obtain ⟨hP, hob, hR, hst2, Bx, hso⟩ := H2.out
    refine ⟨_, ob, F', rfl, ?_, fun b e => ⟨by have := (hob b e).1; simp at this; omega, (hob b e).2⟩, ?_, ?_⟩
    · unfold ParamsAt at hP ⊢
      ((repeat (first | with_reducible apply SlAt.drew | with_reducible apply SlAt.alloc | (with_reducible refine SlAt.far ?_ (by first | assumption | (simp; done) | (simp; assumption) | (simp; omega)) _))); exact hP)
    · have hx : ∀ b, F' b → b ≠ w.heap.size := fun b hb e => by
        rcases hst2.sub b hb with h | h
        · have := H.out.2.1 b h; omega
        · simp at h; omega
      obtain ⟨h1, h2, vp, op, h3, h4, h5, h6⟩ := hR
      have hqx : q ≠ w.heap.size := hx q h5
      have hox : op ≠ some w.heap.size := fun e => hx _ (h6 _ e) rfl
      refine ⟨h1, fun b hb => by simpa using h2 b hb, vp, op, ?_, ?_, h5, h6⟩
      · (refine blk_ex ?_; apply Exists.intro; apply And.intro; (repeat (first | with_reducible apply Blk.drew | with_reducible apply Blk.alloc | with_reducible apply Blk.set_ | (with_reducible apply Blk.far_; · first | (simp; done) | (simp; assumption) | (simp; omega)))); exact h3; simp [pcells])
      · ((repeat (first | with_reducible apply SlAt.drew | with_reducible apply SlAt.alloc | (with_reducible refine SlAt.far ?_ (by first | assumption | (simp; done) | (simp; assumption) | (simp; omega)) _))); exact h4)
    · have h9 : Step F F' w w2 := Step.alloc_left hst2
      ((repeat (first | with_reducible apply Step.drew | with_reducible apply Step.alloc | (with_reducible apply Step.setNew; · simp))); exact h9)
  have bs3 : (st == 3) = false := by simpa using hs3
  by_cases hs4 : st = 4
  · subst hs4
    have neg : PV.rune s r = (if r = 7 ∨ r = 24 ∨ r = 26 then ({ s with state := 0 }, PV.noAct, false) else (s, PV.noAct, false)) := by
      unfold PV.rune; rw [if_neg H27.out, if_neg (by rw [← HST.out]; omega), if_neg (by rw [← HST.out]; omega), if_neg (by rw [← HST.out]; omega), if_pos HST.out.symm]
    have NEG := Lib.hid neg
    clear neg
    by_cases h7 : r = 7
    · subst h7
      go_enter Tryd.func29, Tryd.ntmps29
      go_wp2
      refine bodyPost_ret (v := .tuple #[.agg #[.int .i64 0, .int .i32 0, .bool false, .slice none 0 0], .bool false]) (by simp [results, Tryd.results29, go_sem]) rfl (FIN.out { s with state := 0 } PV.noAct false _ (by rw [NEG.out]; simp) rfl rfl (fun vp hb => ?_))
      (refine on_ex ?_; apply Exists.intro; apply And.intro; (repeat (first | with_reducible apply On.set | with_reducible apply On.drew | with_reducible apply On.alloc | (with_reducible refine On.other ?_ hb.lt (by simp) _))); exact On.refl hb; simp [pcells])
    by_cases h24 : r = 24
    · subst h24
      go_enter Tryd.func29, Tryd.ntmps29
      go_wp2
      refine bodyPost_ret (v := .tuple #[.agg #[.int .i64 0, .int .i32 0, .bool false, .slice none 0 0], .bool false]) (by simp [results, Tryd.results29, go_sem]) rfl (FIN.out { s with state := 0 } PV.noAct false _ (by rw [NEG.out]; simp) rfl rfl (fun vp hb => ?_))
      (refine on_ex ?_; apply Exists.intro; apply And.intro; (repeat (first | with_reducible apply On.set | with_reducible apply On.drew | with_reducible apply On.alloc | (with_reducible refine On.other ?_ hb.lt (by simp) _))); exact On.refl hb; simp [pcells])
    by_cases h26 : r = 26
    · subst h26
      go_enter Tryd.func29, Tryd.ntmps29
      go_wp2
      refine bodyPost_ret (v := .tuple #[.agg #[.int .i64 0, .int .i32 0, .bool false, .slice none 0 0], .bool false]) (by simp [results, Tryd.results29, go_sem]) rfl (FIN.out { s with state := 0 } PV.noAct false _ (by rw [NEG.out]; simp) rfl rfl (fun vp hb => ?_))
      (refine on_ex ?_; apply Exists.intro; apply And.intro; (repeat (first | with_reducible apply On.set | with_reducible apply On.drew | with_reducible apply On.alloc | (with_reducible refine On.other ?_ hb.lt (by simp) _))); exact On.refl hb; simp [pcells])
    have b7 : (r == 7) = false := by simpa using h7
    have b24 : (r == 24) = false := by simpa using h24
    have b26 : (r == 26) = false := by simpa using h26
    go_enter Tryd.func29, Tryd.ntmps29
    go_wp2
    refine bodyPost_ret (v := .tuple #[.agg #[.int .i64 0, .int .i32 0, .bool false, .slice none 0 0], .bool false]) (by simp [results, Tryd.results29, go_sem]) rfl (FIN.out s PV.noAct false _ (by rw [NEG.out, if_neg (by omega)]) rfl rfl (fun vp hb => ?_))
    (refine on_ex ?_; apply Exists.intro; apply And.intro; (repeat (first | with_reducible apply On.set | with_reducible apply On.drew | with_reducible apply On.alloc | (with_reducible refine On.other ?_ hb.lt (by simp) _))); exact On.refl hb; simp [pcells])
  have bs4 : (st == 4) = false := by simpa using hs4
  by_cases hs5 : st = 5
  · subst hs5
    have neg : PV.rune s r = (if r = 92 then ({ s with state := 0 }, PV.noAct, false) else PV.escaped s r) := by
      unfold PV.rune; rw [if_neg H27.out, if_neg (by rw [← HST.out]; omega), if_neg (by rw [← HST.out]; omega), if_neg (by rw [← HST.out]; omega), if_neg (by rw [← HST.out]; omega), if_pos HST.out.symm]
    have NEG := Lib.hid neg
    clear neg
    by_cases h92 : r = 92
    · subst h92
      go_enter Tryd.func29, Tryd.ntmps29
      go_wp2
      refine bodyPost_ret (v := .tuple #[.agg #[.int .i64 0, .int .i32 0, .bool false, .slice none 0 0], .bool false]) (by simp [results, Tryd.results29, go_sem]) rfl (FIN.out { s with state := 0 } PV.noAct false _ (by rw [NEG.out]; simp) rfl rfl (fun vp hb => ?_))
      (refine on_ex ?_; apply Exists.intro; apply And.intro; (repeat (first | with_reducible apply On.set | with_reducible apply On.drew | with_reducible apply On.alloc | (with_reducible refine On.other ?_ hb.lt (by simp) _))); exact On.refl hb; simp [pcells])
    have b92 : (r == 92) = false := by simpa using h92
    go_enter Tryd.func29, Tryd.ntmps29
    go_wp2_with fail
    refine (escaped_any (by exact H.out.alloc _) r).mono ?_
    rintro e w2 ⟨pv, ob, F', rfl, hP, hob, hR, hst2⟩
    have hE : PV.rune s r = (PV.escaped s r) := by rw [NEG.out, if_neg h92]
    have HE := Lib.hid hE
    obtain ⟨pa, pk, rfl⟩ := ParamsAt.form hP
    have Bx : Blk w2 w.heap.size 59 #[.int .i64 0, .int .i32 0, .bool false, .slice none 0 0] := hst2.blk (Blk.new _ _ _) (fun h => by have := H.out.2.1 _ h; omega)
    have hso : ob ≠ some w.heap.size := fun e => by have := (hob _ e).1; simp at this; omega
    have H2 := Lib.hid (And.intro hP (And.intro hob (And.intro hR (And.intro hst2 (And.intro Bx hso)))))
    have x0 : w2.cell? ⟨w.heap.size, 0, none⟩ = some (.int .i64 0) := Bx.cell 0
    have x1 : w2.cell? ⟨w.heap.size, 1, none⟩ = some (.int .i32 0) := Bx.cell 1
    have x2 : w2.cell? ⟨w.heap.size, 2, none⟩ = some (.bool false) := Bx.cell 2
    have x3 : w2.cell? ⟨w.heap.size, 3, none⟩ = some (.slice none 0 0) := Bx.cell 3
    have y0 := Bx.frozen 0
    have y1 := Bx.frozen 1
    have y2 := Bx.frozen 2
    have y3 := Bx.frozen 3
    clear hP hob hR hst2 Bx hso hE
    simp only [actVal]
    go_wp2
    refine bodyPost_ret (v := .tuple #[actVal (PV.escaped s r).2.1 (.slice pa (PV.escaped s r).2.1.params.length pk), .bool (PV.escaped s r).2.2]) (by simp [actVal, results, Tryd.results29, go_sem, x0, x1, x2, x3]) rfl ?_
    rw [HE.out]
    obtain ⟨hP, hob, hR, hst2, Bx, hso⟩ := H2.out
    refine ⟨_, ob, F', rfl, ?_, fun b e => ⟨by have := (hob b e).1; simp at this; omega, (hob b e).2⟩, ?_, ?_⟩
    · unfold ParamsAt at hP ⊢
      ((repeat (first | with_reducible apply SlAt.drew | with_reducible apply SlAt.alloc | (with_reducible refine SlAt.far ?_ (by first | assumption | (simp; done) | (simp; assumption) | (simp; omega)) _))); exact hP)
    · have hx : ∀ b, F' b → b ≠ w.heap.size := fun b hb e => by
        rcases hst2.sub b hb with h | h
        · have := H.out.2.1 b h; omega
        · simp at h; omega
      obtain ⟨h1, h2, vp, op, h3, h4, h5, h6⟩ := hR
      have hqx : q ≠ w.heap.size := hx q h5
      have hox : op ≠ some w.heap.size := fun e => hx _ (h6 _ e) rfl
      refine ⟨h1, fun b hb => by simpa using h2 b hb, vp, op, ?_, ?_, h5, h6⟩
      · (refine blk_ex ?_; apply Exists.intro; apply And.intro; (repeat (first | with_reducible apply Blk.drew | with_reducible apply Blk.alloc | with_reducible apply Blk.set_ | (with_reducible apply Blk.far_; · first | (simp; done) | (simp; assumption) | (simp; omega)))); exact h3; simp [pcells])
      · ((repeat (first | with_reducible apply SlAt.drew | with_reducible apply SlAt.alloc | (with_reducible refine SlAt.far ?_ (by first | assumption | (simp; done) | (simp; assumption) | (simp; omega)) _))); exact h4)
    · have h9 : Step F F' w w2 := Step.alloc_left hst2
      ((repeat (first | with_reducible apply Step.drew | with_reducible apply Step.alloc | (with_reducible apply Step.setNew; · simp))); exact h9)
  have bs5 : (st == 5) = false := by simpa using hs5
  have neg : PV.rune s r = (s, PV.plain r) := by
    unfold PV.rune; rw [if_neg H27.out, if_neg (by rw [← HST.out]; omega), if_neg (by rw [← HST.out]; omega), if_neg (by rw [← HST.out]; omega), if_neg (by rw [← HST.out]; omega), if_neg (by rw [← HST.out]; omega)]
  have NEG := Lib.hid neg
  clear neg
  go_enter Tryd.func29, Tryd.ntmps29
  go_wp2_with fail
  refine (plain_any (by exact H.out.alloc _) r).mono ?_
  rintro e w2 ⟨pv, ob, F', rfl, hP, hob, hR, hst2⟩
  have hE : PV.rune s r = (s, PV.plain r) := by exact NEG.out
  have HE := Lib.hid hE
  obtain ⟨pa, pk, rfl⟩ := ParamsAt.form hP
  have Bx : Blk w2 w.heap.size 59 #[.int .i64 0, .int .i32 0, .bool false, .slice none 0 0] := hst2.blk (Blk.new _ _ _) (fun h => by have := H.out.2.1 _ h; omega)
  have hso : ob ≠ some w.heap.size := fun e => by have := (hob _ e).1; simp at this; omega
  have H2 := Lib.hid (And.intro hP (And.intro hob (And.intro hR (And.intro hst2 (And.intro Bx hso)))))
  have x0 : w2.cell? ⟨w.heap.size, 0, none⟩ = some (.int .i64 0) := Bx.cell 0
  have x1 : w2.cell? ⟨w.heap.size, 1, none⟩ = some (.int .i32 0) := Bx.cell 1
  have x2 : w2.cell? ⟨w.heap.size, 2, none⟩ = some (.bool false) := Bx.cell 2
  have x3 : w2.cell? ⟨w.heap.size, 3, none⟩ = some (.slice none 0 0) := Bx.cell 3
  have y0 := Bx.frozen 0
  have y1 := Bx.frozen 1
  have y2 := Bx.frozen 2
  have y3 := Bx.frozen 3
  clear hP hob hR hst2 Bx hso hE
  simp only [actVal]
  go_wp2
  refine bodyPost_ret (v := .tuple #[actVal (s, PV.plain r).2.1 (.slice pa (s, PV.plain r).2.1.params.length pk), .bool (s, PV.plain r).2.2]) (by simp [actVal, results, Tryd.results29, go_sem, x0, x1, x2, x3]) rfl ?_
  rw [HE.out]
  obtain ⟨hP, hob, hR, hst2, Bx, hso⟩ := H2.out
  refine ⟨_, ob, F', rfl, ?_, fun b e => ⟨by have := (hob b e).1; simp at this; omega, (hob b e).2⟩, ?_, ?_⟩
  · unfold ParamsAt at hP ⊢
    ((repeat (first | with_reducible apply SlAt.drew | with_reducible apply SlAt.alloc | (with_reducible refine SlAt.far ?_ (by first | assumption | (simp; done) | (simp; assumption) | (simp; omega)) _))); exact hP)
  · have hx : ∀ b, F' b → b ≠ w.heap.size := fun b hb e => by
      rcases hst2.sub b hb with h | h
      · have := H.out.2.1 b h; omega
      · simp at h; omega
    obtain ⟨h1, h2, vp, op, h3, h4, h5, h6⟩ := hR
    have hqx : q ≠ w.heap.size := hx q h5
    have hox : op ≠ some w.heap.size := fun e => hx _ (h6 _ e) rfl
    refine ⟨h1, fun b hb => by simpa using h2 b hb, vp, op, ?_, ?_, h5, h6⟩
    · (refine blk_ex ?_; apply Exists.intro; apply And.intro; (repeat (first | with_reducible apply Blk.drew | with_reducible apply Blk.alloc | with_reducible apply Blk.set_ | (with_reducible apply Blk.far_; · first | (simp; done) | (simp; assumption) | (simp; omega)))); exact h3; simp [pcells])
    · ((repeat (first | with_reducible apply SlAt.drew | with_reducible apply SlAt.alloc | (with_reducible refine SlAt.far ?_ (by first | assumption | (simp; done) | (simp; assumption) | (simp; omega)) _))); exact h4)
  · have h9 : Step F F' w w2 := Step.alloc_left hst2
    ((repeat (first | with_reducible apply Step.drew | with_reducible apply Step.alloc | (with_reducible apply Step.setNew; · simp))); exact h9)

end Go.Proofs.YtdbepelcgmnbbaaDoor
