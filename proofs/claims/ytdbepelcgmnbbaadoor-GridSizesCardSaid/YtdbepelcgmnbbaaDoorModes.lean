/- Modes. -/
import Derived.Test.YtdbepelcgmnbbaaDoorCtl
import Derived.Test.YtdbepelcgmnbbaaDoorActs
namespace Go.Proofs.YtdbepelcgmnbbaaDoor
open Go Go.RowKit

theorem GridAt.alloc {w : World} {p : Nat} {F : Nat → Prop} {g : PG.G} {vq : Value} (h : GridAt w p F g vq) (o : Obj) : GridAt (w.alloc o) p F g vq :=
  h.below ⟨rfl, rfl, rfl, by simp, fun k hk => Below.heap_alloc w o k hk⟩

def ModesRel (w : World) (p : Nat) (F : Nat → Prop) (g : PG.G) (vq : Value) (on : Bool) (ps : List Int) (i : Value) (wr : World) : Prop :=
  ∃ (n : Nat) (F' : Nat → Prop), n ≤ ps.length ∧ i = .int .i64 n ∧ GridAt wr p F' ((ps.take n).foldl (PG.G.mode on) g) vq ∧ Step F F' w wr

theorem ModesRel.next {w wr W : World} {p : Nat} {F F3 : Nat → Prop} {g g3 g' : PG.G} {vq i : Value} {on : Bool} {ps : List Int} {n : Nat} {k : Int} (hn : n < ps.length) (hG : GridAt wr p F3 g3 vq) (hst : Step F F3 w wr)
    (hS : (ps.take (n + 1)).foldl (PG.G.mode on) g = PG.G.mode on g3 k) (e : PG.G.mode on g3 k = g') (hi : i = .int .i64 (n + 1 : Nat)) (e1 : g'.cells = g3.cells) (e2 : g'.tabs = g3.tabs) (e3 : g'.other = g3.other) (e4 : g'.past = g3.past)
    (ho : ∀ vc vt vo vp, Blk wr p 52 (gcells g3 vc vt vo vp vq) → On wr W p 52 (gcells g' vc vt vo vp vq)) : ModesRel w p F g vq on ps i W := by
  have h8 := hG.scalar (e ▸ hG.1.mode on k) ho e1 e2 e3 e4
  exact ⟨n + 1, F3, hn, hi, by rw [hS, e]; exact h8.1, hst.trans h8.2⟩

set_option maxRecDepth 20000 in
set_option maxHeartbeats 4000000 in
theorem modes_any {w : World} {p : Nat} {F : Nat → Prop} {g : PG.G} {vq : Value} (h : GridAt w p F g vq) (a : PG.G.Act) (pv : Value) (ob : Option Nat) (hp : ParamsAt w pv a.params ob) (hob : ∀ b, ob = some b → ¬ F b) (hlen : a.params.length ≤ 100000) :
    Calls Tryd.prog 33 #[.pointer (some ⟨p, 0, none⟩), actVal a pv] w (GPost w p F (g.modes a.rune a.params) vq) := by
  obtain ⟨kind, r, mark, ps⟩ := a
  simp only [actVal] at *
  obtain ⟨pa, pc, rfl⟩ := hp.form
  have H := Lib.hid h
  have HP := Lib.hid hp
  clear h hp
  by_cases h104 : r = 104
  · subst h104
    have hfin : g.modes 104 ps = ps.foldl (PG.G.mode true) g := by unfold PG.G.modes; simp
    have HFIN := Lib.hid hfin
    clear hfin
    go_enter Tryd.func33, Tryd.ntmps33
    go_wp2_with fail
    go_loopw [6, 21] (fun _ i wr => ModesRel (w.alloc (.cells #[.int .i64 kind, .int .i32 104, .bool mark, .slice pa ps.length pc] 59)) p F g vq true ps i wr) (fun _ i _ => ps.length - (intOf i).toNat)
    case atStart => exact ⟨0, F, Nat.zero_le _, rfl, H.out.alloc _, Step.refl _ _⟩
    case round =>
      obtain ⟨n, F3, hn, rfl, hG3, hst3⟩ := hrel
      by_cases hlt : n < ps.length
      · have hli : (n : Int) < (ps.length : Int) := by omega
        have hl0 : (0 : Int) ≤ (n : Int) := by omega
        obtain ⟨pb, po, pc', e1, e2, hcell, hpb⟩ := HP.out.cell hlt
        cases e1
        have hcell2 := hst3.cell (a := ⟨pb, po + n, none⟩) ((World.cell?_of_block (Below.heap_alloc w _ pb hpb)).trans hcell) (hob _ e2)
        obtain ⟨k, hk⟩ : ∃ k, k = ps[n] := ⟨_, rfl⟩
        rw [← hk] at hcell2
        have hsnoc : (ps.take (n + 1)).foldl (PG.G.mode true) g = PG.G.mode true ((ps.take n).foldl (PG.G.mode true) g) k := by
          rw [List.take_succ_eq_append_getElem hlt, List.foldl_append, hk]; rfl
        have HS := Lib.hid hsnoc
        obtain ⟨g3, hg3⟩ : ∃ g3, g3 = (ps.take n).foldl (PG.G.mode true) g := ⟨_, rfl⟩
        rw [← hg3] at hG3 HS
        have H3 := Lib.hid (And.intro hG3 hst3)
        obtain ⟨_, _, _, _, hb3⟩ := hG3.blk
        have c5 := gc_due hb3
        have c19 := gc_wrap hb3
        have c21 := gc_hidden hb3
        have f5 := hb3.frozen 5
        have f19 := hb3.frozen 19
        have f21 := hb3.frozen 21
        clear hG3 hst3 hsnoc hg3 hk hcell e2 hb3
        by_cases h7 : k = 7
        · subst h7
          cases hd : g3.at_.due <;> rw [hd] at c5
          all_goals
            go_wp2
            go_simp
            go_roundw
            case rel =>
              refine ModesRel.next (g' := { g3 with wrap := true, at_ := { g3.at_ with due := g3.at_.due && true } }) hlt H3.out.1 H3.out.2 HS.out rfl (by go_num) rfl rfl rfl rfl (fun vc vt vo vp hb => ?_)
              (refine on_ex ?_; apply Exists.intro; apply And.intro; (repeat (first | with_reducible apply On.set | with_reducible apply On.drew)); exact On.refl hb; simp [gcells, PG.zeroCur, PG.zeroCell])
              all_goals simp [hd]
            case measure => simp [intOf]; omega
        by_cases h25 : k = 25
        · subst h25
          go_wp2
          go_simp
          go_roundw
          case rel =>
            refine ModesRel.next (g' := { g3 with hidden := !true }) hlt H3.out.1 H3.out.2 HS.out rfl (by go_num) rfl rfl rfl rfl (fun vc vt vo vp hb => ?_)
            (refine on_ex ?_; apply Exists.intro; apply And.intro; (repeat (first | with_reducible apply On.set | with_reducible apply On.drew)); exact On.refl hb; simp [gcells, PG.zeroCur, PG.zeroCell])
          case measure => simp [intOf]; omega
        by_cases h1049 : k = 1049
        · subst h1049
          go_wp2_with fail
          refine (alternate_any (by exact H3.out.1) true).mono ?_
          rintro e w4 ⟨F4, rfl, hG4, hst4⟩
          go_wp2
          go_simp
          go_roundw
          case rel => exact ⟨n + 1, F4, by omega, by go_num, by rw [HS.out]; exact hG4, H3.out.2.trans hst4⟩
          case measure => simp [intOf]; omega
        · have b1 : (k == 7) = false := by simpa using h7
          have b2 : (k == 25) = false := by simpa using h25
          have b3 : (k == 1049) = false := by simpa using h1049
          have hsame : PG.G.mode true g3 k = g3 := by unfold PG.G.mode; simp [h7, h25, h1049]
          have HSAME := Lib.hid hsame
          clear hsame
          go_wp2
          go_simp
          go_roundw
          case rel => exact ⟨n + 1, F3, by omega, by go_num, by rw [HS.out, HSAME.out]; exact H3.out.1, H3.out.2⟩
          case measure => simp [intOf]; omega
      · have hli : ¬ (n : Int) < (ps.length : Int) := by omega
        have H3 := Lib.hid (And.intro hG3 hst3)
        clear hG3 hst3
        go_wp2
        go_end0
        rw [HFIN.out]
        have e : ps.take n = ps := List.take_of_length_le (by omega)
        rw [← e]
        exact ⟨F3, rfl, H3.out.1, Step.alloc_left H3.out.2⟩
  by_cases h108 : r = 108
  · subst h108
    have hfin : g.modes 108 ps = ps.foldl (PG.G.mode false) g := by unfold PG.G.modes; simp
    have HFIN := Lib.hid hfin
    clear hfin
    go_enter Tryd.func33, Tryd.ntmps33
    go_wp2_with fail
    go_loopw [6, 21] (fun _ i wr => ModesRel (w.alloc (.cells #[.int .i64 kind, .int .i32 108, .bool mark, .slice pa ps.length pc] 59)) p F g vq false ps i wr) (fun _ i _ => ps.length - (intOf i).toNat)
    case atStart => exact ⟨0, F, Nat.zero_le _, rfl, H.out.alloc _, Step.refl _ _⟩
    case round =>
      obtain ⟨n, F3, hn, rfl, hG3, hst3⟩ := hrel
      by_cases hlt : n < ps.length
      · have hli : (n : Int) < (ps.length : Int) := by omega
        have hl0 : (0 : Int) ≤ (n : Int) := by omega
        obtain ⟨pb, po, pc', e1, e2, hcell, hpb⟩ := HP.out.cell hlt
        cases e1
        have hcell2 := hst3.cell (a := ⟨pb, po + n, none⟩) ((World.cell?_of_block (Below.heap_alloc w _ pb hpb)).trans hcell) (hob _ e2)
        obtain ⟨k, hk⟩ : ∃ k, k = ps[n] := ⟨_, rfl⟩
        rw [← hk] at hcell2
        have hsnoc : (ps.take (n + 1)).foldl (PG.G.mode false) g = PG.G.mode false ((ps.take n).foldl (PG.G.mode false) g) k := by
          rw [List.take_succ_eq_append_getElem hlt, List.foldl_append, hk]; rfl
        have HS := Lib.hid hsnoc
        obtain ⟨g3, hg3⟩ : ∃ g3, g3 = (ps.take n).foldl (PG.G.mode false) g := ⟨_, rfl⟩
        rw [← hg3] at hG3 HS
        have H3 := Lib.hid (And.intro hG3 hst3)
        obtain ⟨_, _, _, _, hb3⟩ := hG3.blk
        have c5 := gc_due hb3
        have c19 := gc_wrap hb3
        have c21 := gc_hidden hb3
        have f5 := hb3.frozen 5
        have f19 := hb3.frozen 19
        have f21 := hb3.frozen 21
        clear hG3 hst3 hsnoc hg3 hk hcell e2 hb3
        by_cases h7 : k = 7
        · subst h7
          cases hd : g3.at_.due <;> rw [hd] at c5
          all_goals
            go_wp2
            go_simp
            go_roundw
            case rel =>
              refine ModesRel.next (g' := { g3 with wrap := false, at_ := { g3.at_ with due := g3.at_.due && false } }) hlt H3.out.1 H3.out.2 HS.out rfl (by go_num) rfl rfl rfl rfl (fun vc vt vo vp hb => ?_)
              (refine on_ex ?_; apply Exists.intro; apply And.intro; (repeat (first | with_reducible apply On.set | with_reducible apply On.drew)); exact On.refl hb; simp [gcells, PG.zeroCur, PG.zeroCell])
              all_goals simp [hd]
            case measure => simp [intOf]; omega
        by_cases h25 : k = 25
        · subst h25
          go_wp2
          go_simp
          go_roundw
          case rel =>
            refine ModesRel.next (g' := { g3 with hidden := !false }) hlt H3.out.1 H3.out.2 HS.out rfl (by go_num) rfl rfl rfl rfl (fun vc vt vo vp hb => ?_)
            (refine on_ex ?_; apply Exists.intro; apply And.intro; (repeat (first | with_reducible apply On.set | with_reducible apply On.drew)); exact On.refl hb; simp [gcells, PG.zeroCur, PG.zeroCell])
          case measure => simp [intOf]; omega
        by_cases h1049 : k = 1049
        · subst h1049
          go_wp2_with fail
          refine (alternate_any (by exact H3.out.1) false).mono ?_
          rintro e w4 ⟨F4, rfl, hG4, hst4⟩
          go_wp2
          go_simp
          go_roundw
          case rel => exact ⟨n + 1, F4, by omega, by go_num, by rw [HS.out]; exact hG4, H3.out.2.trans hst4⟩
          case measure => simp [intOf]; omega
        · have b1 : (k == 7) = false := by simpa using h7
          have b2 : (k == 25) = false := by simpa using h25
          have b3 : (k == 1049) = false := by simpa using h1049
          have hsame : PG.G.mode false g3 k = g3 := by unfold PG.G.mode; simp [h7, h25, h1049]
          have HSAME := Lib.hid hsame
          clear hsame
          go_wp2
          go_simp
          go_roundw
          case rel => exact ⟨n + 1, F3, by omega, by go_num, by rw [HS.out, HSAME.out]; exact H3.out.1, H3.out.2⟩
          case measure => simp [intOf]; omega
      · have hli : ¬ (n : Int) < (ps.length : Int) := by omega
        have H3 := Lib.hid (And.intro hG3 hst3)
        clear hG3 hst3
        go_wp2
        go_end0
        rw [HFIN.out]
        have e : ps.take n = ps := List.take_of_length_le (by omega)
        rw [← e]
        exact ⟨F3, rfl, H3.out.1, Step.alloc_left H3.out.2⟩
  · have b1 : (r == 104) = false := by simpa using h104
    have b2 : (r == 108) = false := by simpa using h108
    have b3 : (r != 104) = true := by simpa using h104
    have b4 : (r != 108) = true := by simpa using h108
    have hfin : g.modes r ps = g := by unfold PG.G.modes; simp [h104, h108]
    have HFIN := Lib.hid hfin
    clear hfin
    go_enter Tryd.func33, Tryd.ntmps33
    go_wp2
    go_end0
    rw [HFIN.out]
    exact ⟨F, rfl, H.out.alloc _, (Step.refl F w).alloc _⟩

end Go.Proofs.YtdbepelcgmnbbaaDoor
