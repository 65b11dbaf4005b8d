/- Runes behind an escape. -/
import Derived.Test.YtdbepelcgmnbbaaDoorVtAt
namespace Go.Proofs.YtdbepelcgmnbbaaDoor
open Go Go.RowKit

set_option maxRecDepth 20000 in
set_option maxHeartbeats 4000000 in
theorem escaped_any {w : World} {q d : Nat} {F : Nat → Prop} {s : PV.P} (h : RunAt w q F s d) (r : Int) :
    Calls Tryd.prog 43 #[.pointer (some ⟨q, 0, none⟩), .int .i32 r] w (RunPost w q F d (PV.escaped s r)) := by
  have H := Lib.hid h
  obtain ⟨vp0, hb⟩ := h.blk
  have c1 := pc_state hb
  have c2 := pc_mark hb
  have c3 := pc_odd hb
  have c4 := pc_begun hb
  have c5 := pc_over hb
  have c6 := pc_params hb
  have f1 := hb.frozen 1
  have f2 := hb.frozen 2
  have f3 := hb.frozen 3
  have f4 := hb.frozen 4
  have f5 := hb.frozen 5
  have f6 := hb.frozen 6
  have hpl := hb.lt
  clear h hb
  have fin : ∀ (s' : PV.P) (a : PG.G.Act) (ok : Bool) (W : World), PV.escaped s r = (s', a, ok) → s'.params = s.params → a.params = [] → (∀ vp, Blk w q 72 (pcells s d vp) → On w W q 72 (pcells s' d vp)) →
      RunPost w q F d (PV.escaped s r) (.returned (.tuple #[.agg #[.int .i64 a.kind, .int .i32 a.rune, .bool a.mark, .slice none 0 0], .bool ok])) W := by
    intro s' a ok W e he ha ho
    have hI := PV.escaped_inv H.out.1 r
    rw [e] at hI ⊢
    exact runpost_scalar H.out hI he ho a ha ok
  have FIN := Lib.hid fin
  clear fin
  by_cases h91 : r = 91
  · subst h91
    go_enter Tryd.func43, Tryd.ntmps43
    go_wp2
    refine bodyPost_ret (v := .tuple #[.agg #[.int .i64 0, .int .i32 0, .bool false, .slice none 0 0], .bool false]) (by simp [results, Tryd.results43, go_sem]) rfl ?_
    obtain ⟨hI, hF, vp, op, hb, hS, hq, hop⟩ := H.out
    have e : PV.escaped s 91 = ({ state := 3, mark := false, odd := false, begun := false, over := false, params := [0] }, PV.noAct, false) := by unfold PV.escaped; simp
    have hI' := PV.escaped_inv hI 91
    rw [e] at hI' ⊢
    refine runpost_new (vp := .slice (some ⟨w.heap.size + 1, 0, none⟩) 1 1) (op := some (w.heap.size + 1)) hI' hq hF ?_ (fun b e => by cases e; exact .inr (by omega)) ?_ PV.noAct rfl false
    · exact ⟨rfl, .inr ⟨_, 0, 1, #[.int .i64 0], rfl, rfl, Blk.new_at (by simp), Nat.le_refl _, by simp, fun i x hx => by simpa using hx⟩⟩
    · (refine on_ex ?_; apply Exists.intro; apply And.intro; (repeat (first | with_reducible apply On.set | with_reducible apply On.drew | with_reducible apply On.alloc | (with_reducible refine On.other ?_ hb.lt (by simp) _))); exact On.refl hb; simp [pcells])
  by_cases h93 : r = 93
  · subst h93
    go_enter Tryd.func43, Tryd.ntmps43
    go_wp2
    refine bodyPost_ret (v := .tuple #[.agg #[.int .i64 0, .int .i32 0, .bool false, .slice none 0 0], .bool false]) (by simp [results, Tryd.results43, go_sem]) rfl (FIN.out { s with state := 4 } PV.noAct false _ (by unfold PV.escaped; simp) rfl rfl (fun vp hb => ?_))
    (refine on_ex ?_; apply Exists.intro; apply And.intro; (repeat (first | with_reducible apply On.set | with_reducible apply On.drew | with_reducible apply On.alloc | (with_reducible refine On.other ?_ hb.lt (by simp) _))); exact On.refl hb; simp [pcells])
  by_cases h80 : r = 80
  · subst h80
    go_enter Tryd.func43, Tryd.ntmps43
    go_wp2
    refine bodyPost_ret (v := .tuple #[.agg #[.int .i64 0, .int .i32 0, .bool false, .slice none 0 0], .bool false]) (by simp [results, Tryd.results43, go_sem]) rfl (FIN.out { s with state := 4 } PV.noAct false _ (by unfold PV.escaped; simp) rfl rfl (fun vp hb => ?_))
    (refine on_ex ?_; apply Exists.intro; apply And.intro; (repeat (first | with_reducible apply On.set | with_reducible apply On.drew | with_reducible apply On.alloc | (with_reducible refine On.other ?_ hb.lt (by simp) _))); exact On.refl hb; simp [pcells])
  by_cases h88 : r = 88
  · subst h88
    go_enter Tryd.func43, Tryd.ntmps43
    go_wp2
    refine bodyPost_ret (v := .tuple #[.agg #[.int .i64 0, .int .i32 0, .bool false, .slice none 0 0], .bool false]) (by simp [results, Tryd.results43, go_sem]) rfl (FIN.out { s with state := 4 } PV.noAct false _ (by unfold PV.escaped; simp) rfl rfl (fun vp hb => ?_))
    (refine on_ex ?_; apply Exists.intro; apply And.intro; (repeat (first | with_reducible apply On.set | with_reducible apply On.drew | with_reducible apply On.alloc | (with_reducible refine On.other ?_ hb.lt (by simp) _))); exact On.refl hb; simp [pcells])
  by_cases h94 : r = 94
  · subst h94
    go_enter Tryd.func43, Tryd.ntmps43
    go_wp2
    refine bodyPost_ret (v := .tuple #[.agg #[.int .i64 0, .int .i32 0, .bool false, .slice none 0 0], .bool false]) (by simp [results, Tryd.results43, go_sem]) rfl (FIN.out { s with state := 4 } PV.noAct false _ (by unfold PV.escaped; simp) rfl rfl (fun vp hb => ?_))
    (refine on_ex ?_; apply Exists.intro; apply And.intro; (repeat (first | with_reducible apply On.set | with_reducible apply On.drew | with_reducible apply On.alloc | (with_reducible refine On.other ?_ hb.lt (by simp) _))); exact On.refl hb; simp [pcells])
  by_cases h95 : r = 95
  · subst h95
    go_enter Tryd.func43, Tryd.ntmps43
    go_wp2
    refine bodyPost_ret (v := .tuple #[.agg #[.int .i64 0, .int .i32 0, .bool false, .slice none 0 0], .bool false]) (by simp [results, Tryd.results43, go_sem]) rfl (FIN.out { s with state := 4 } PV.noAct false _ (by unfold PV.escaped; simp) rfl rfl (fun vp hb => ?_))
    (refine on_ex ?_; apply Exists.intro; apply And.intro; (repeat (first | with_reducible apply On.set | with_reducible apply On.drew | with_reducible apply On.alloc | (with_reducible refine On.other ?_ hb.lt (by simp) _))); exact On.refl hb; simp [pcells])
  by_cases h40 : r = 40
  · subst h40
    go_enter Tryd.func43, Tryd.ntmps43
    go_wp2
    refine bodyPost_ret (v := .tuple #[.agg #[.int .i64 0, .int .i32 0, .bool false, .slice none 0 0], .bool false]) (by simp [results, Tryd.results43, go_sem]) rfl (FIN.out { s with state := 2 } PV.noAct false _ (by unfold PV.escaped; simp) rfl rfl (fun vp hb => ?_))
    (refine on_ex ?_; apply Exists.intro; apply And.intro; (repeat (first | with_reducible apply On.set | with_reducible apply On.drew | with_reducible apply On.alloc | (with_reducible refine On.other ?_ hb.lt (by simp) _))); exact On.refl hb; simp [pcells])
  by_cases h41 : r = 41
  · subst h41
    go_enter Tryd.func43, Tryd.ntmps43
    go_wp2
    refine bodyPost_ret (v := .tuple #[.agg #[.int .i64 0, .int .i32 0, .bool false, .slice none 0 0], .bool false]) (by simp [results, Tryd.results43, go_sem]) rfl (FIN.out { s with state := 2 } PV.noAct false _ (by unfold PV.escaped; simp) rfl rfl (fun vp hb => ?_))
    (refine on_ex ?_; apply Exists.intro; apply And.intro; (repeat (first | with_reducible apply On.set | with_reducible apply On.drew | with_reducible apply On.alloc | (with_reducible refine On.other ?_ hb.lt (by simp) _))); exact On.refl hb; simp [pcells])
  by_cases h42 : r = 42
  · subst h42
    go_enter Tryd.func43, Tryd.ntmps43
    go_wp2
    refine bodyPost_ret (v := .tuple #[.agg #[.int .i64 0, .int .i32 0, .bool false, .slice none 0 0], .bool false]) (by simp [results, Tryd.results43, go_sem]) rfl (FIN.out { s with state := 2 } PV.noAct false _ (by unfold PV.escaped; simp) rfl rfl (fun vp hb => ?_))
    (refine on_ex ?_; apply Exists.intro; apply And.intro; (repeat (first | with_reducible apply On.set | with_reducible apply On.drew | with_reducible apply On.alloc | (with_reducible refine On.other ?_ hb.lt (by simp) _))); exact On.refl hb; simp [pcells])
  by_cases h43 : r = 43
  · subst h43
    go_enter Tryd.func43, Tryd.ntmps43
    go_wp2
    refine bodyPost_ret (v := .tuple #[.agg #[.int .i64 0, .int .i32 0, .bool false, .slice none 0 0], .bool false]) (by simp [results, Tryd.results43, go_sem]) rfl (FIN.out { s with state := 2 } PV.noAct false _ (by unfold PV.escaped; simp) rfl rfl (fun vp hb => ?_))
    (refine on_ex ?_; apply Exists.intro; apply And.intro; (repeat (first | with_reducible apply On.set | with_reducible apply On.drew | with_reducible apply On.alloc | (with_reducible refine On.other ?_ hb.lt (by simp) _))); exact On.refl hb; simp [pcells])
  by_cases h35 : r = 35
  · subst h35
    go_enter Tryd.func43, Tryd.ntmps43
    go_wp2
    refine bodyPost_ret (v := .tuple #[.agg #[.int .i64 0, .int .i32 0, .bool false, .slice none 0 0], .bool false]) (by simp [results, Tryd.results43, go_sem]) rfl (FIN.out { s with state := 2 } PV.noAct false _ (by unfold PV.escaped; simp) rfl rfl (fun vp hb => ?_))
    (refine on_ex ?_; apply Exists.intro; apply And.intro; (repeat (first | with_reducible apply On.set | with_reducible apply On.drew | with_reducible apply On.alloc | (with_reducible refine On.other ?_ hb.lt (by simp) _))); exact On.refl hb; simp [pcells])
  have b91 : (r == 91) = false := by simpa using h91
  have b93 : (r == 93) = false := by simpa using h93
  have b80 : (r == 80) = false := by simpa using h80
  have b88 : (r == 88) = false := by simpa using h88
  have b94 : (r == 94) = false := by simpa using h94
  have b95 : (r == 95) = false := by simpa using h95
  have b40 : (r == 40) = false := by simpa using h40
  have b41 : (r == 41) = false := by simpa using h41
  have b42 : (r == 42) = false := by simpa using h42
  have b43 : (r == 43) = false := by simpa using h43
  have b35 : (r == 35) = false := by simpa using h35
  have hn1 : ¬ (r = 93 ∨ r = 80 ∨ r = 88 ∨ r = 94 ∨ r = 95) := by omega
  have hn2 : ¬ (r = 40 ∨ r = 41 ∨ r = 42 ∨ r = 43 ∨ r = 35) := by omega
  obtain ⟨c, hc⟩ : ∃ c, c = decide (7 ≤ r ∧ r ≤ 13) := ⟨_, rfl⟩
  have HC := Lib.hid (And.intro hc (And.intro h91 (And.intro hn1 hn2)))
  clear hc hn1 hn2 h91 h93 h80 h88 h94 h95 h40 h41 h42 h43 h35
  cases c
  · have hn : ¬ (7 ≤ r ∧ r ≤ 13) := by have := HC.out.1; simpa using this.symm
    have HN := Lib.hid hn
    clear hn
    by_cases h48 : 48 ≤ r
    · have d1 : decide (48 ≤ r) = true := by simpa using h48
      by_cases h126 : r ≤ 126
      · have d2 : decide (r ≤ 126) = true := by simpa using h126
        go_enter Tryd.func43, Tryd.ntmps43
        go_wp2_with fail
        refine (vtcontrol_any _ r false HC.out.1).mono ?_
        rintro e w' ⟨rfl, rfl⟩
        go_wp2
        refine bodyPost_ret (v := .tuple #[.agg #[.int .i64 3, .int .i32 r, .bool false, .slice none 0 0], .bool true]) (by simp [results, Tryd.results43, go_sem]) rfl (FIN.out { s with state := 0 } ⟨3, r, false, []⟩ true _ (by unfold PV.escaped; rw [if_neg HC.out.2.1, if_neg HC.out.2.2.1, if_neg HC.out.2.2.2, if_neg HN.out, if_pos ⟨h48, h126⟩]) rfl rfl (fun vp hb => ?_))
        (refine on_ex ?_; apply Exists.intro; apply And.intro; (repeat (first | with_reducible apply On.set | with_reducible apply On.drew | with_reducible apply On.alloc | (with_reducible refine On.other ?_ hb.lt (by simp) _))); exact On.refl hb; simp [pcells])
      · have d2 : decide (r ≤ 126) = false := by simpa using h126
        go_enter Tryd.func43, Tryd.ntmps43
        go_wp2_with fail
        refine (vtcontrol_any _ r false HC.out.1).mono ?_
        rintro e w' ⟨rfl, rfl⟩
        go_wp2
        refine bodyPost_ret (v := .tuple #[.agg #[.int .i64 0, .int .i32 0, .bool false, .slice none 0 0], .bool false]) (by simp [results, Tryd.results43, go_sem]) rfl (FIN.out { s with state := 0 } PV.noAct false _ (by unfold PV.escaped; rw [if_neg HC.out.2.1, if_neg HC.out.2.2.1, if_neg HC.out.2.2.2, if_neg HN.out, if_neg (by omega)]) rfl rfl (fun vp hb => ?_))
        (refine on_ex ?_; apply Exists.intro; apply And.intro; (repeat (first | with_reducible apply On.set | with_reducible apply On.drew | with_reducible apply On.alloc | (with_reducible refine On.other ?_ hb.lt (by simp) _))); exact On.refl hb; simp [pcells])
    · have d1 : decide (48 ≤ r) = false := by simpa using h48
      go_enter Tryd.func43, Tryd.ntmps43
      go_wp2_with fail
      refine (vtcontrol_any _ r false HC.out.1).mono ?_
      rintro e w' ⟨rfl, rfl⟩
      go_wp2
      refine bodyPost_ret (v := .tuple #[.agg #[.int .i64 0, .int .i32 0, .bool false, .slice none 0 0], .bool false]) (by simp [results, Tryd.results43, go_sem]) rfl (FIN.out { s with state := 0 } PV.noAct false _ (by unfold PV.escaped; rw [if_neg HC.out.2.1, if_neg HC.out.2.2.1, if_neg HC.out.2.2.2, if_neg HN.out, if_neg (by omega)]) rfl rfl (fun vp hb => ?_))
      (refine on_ex ?_; apply Exists.intro; apply And.intro; (repeat (first | with_reducible apply On.set | with_reducible apply On.drew | with_reducible apply On.alloc | (with_reducible refine On.other ?_ hb.lt (by simp) _))); exact On.refl hb; simp [pcells])
  · have hn : 7 ≤ r ∧ r ≤ 13 := by have := HC.out.1; simpa using this.symm
    have HN := Lib.hid hn
    clear hn
    go_enter Tryd.func43, Tryd.ntmps43
    go_wp2_with fail
    refine (vtcontrol_any _ r true HC.out.1).mono ?_
    rintro e w' ⟨rfl, rfl⟩
    go_wp2
    refine bodyPost_ret (v := .tuple #[.agg #[.int .i64 2, .int .i32 r, .bool false, .slice none 0 0], .bool true]) (by simp [results, Tryd.results43, go_sem]) rfl (FIN.out { s with state := 1 } (PV.ctl r) true _ (by unfold PV.escaped; rw [if_neg HC.out.2.1, if_neg HC.out.2.2.1, if_neg HC.out.2.2.2, if_pos HN.out]) rfl rfl (fun vp hb => ?_))
    (refine on_ex ?_; apply Exists.intro; apply And.intro; (repeat (first | with_reducible apply On.set | with_reducible apply On.drew | with_reducible apply On.alloc | (with_reducible refine On.other ?_ hb.lt (by simp) _))); exact On.refl hb; simp [pcells])

end Go.Proofs.YtdbepelcgmnbbaaDoor
