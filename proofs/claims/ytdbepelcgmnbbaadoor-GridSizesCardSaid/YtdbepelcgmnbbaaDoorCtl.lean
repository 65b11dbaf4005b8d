/- Controls. -/
import Derived.Test.YtdbepelcgmnbbaaDoorAlt
import Derived.StillTailTactics
namespace Go.Proofs.YtdbepelcgmnbbaaDoor
open Go Go.RowKit

/-- The walk to the next tab stop. -/
def StopRel (w : World) (g : PG.G) (i : Value) (wr : World) : Prop :=
  ∃ k fuel : Nat, i = .int .i64 k ∧ wr = w ∧ PG.G.nextStop g.tabs g.cols fuel k = PG.G.nextStop g.tabs g.cols g.cols (g.at_.col + 1) ∧ k + fuel = g.at_.col + 1 + g.cols ∧ k ≤ g.cols

set_option maxRecDepth 20000 in
set_option maxHeartbeats 2000000 in
theorem control_any {w : World} {p : Nat} {F : Nat → Prop} {g : PG.G} {vq : Value} (h : GridAt w p F g vq) (r : Int) :
    Calls Tryd.prog 31 #[.pointer (some ⟨p, 0, none⟩), .int .i32 r] w (GPost w p F (g.control r) vq) := by
  obtain ⟨vc, vt, vo, vp, hb⟩ := h.blk
  have c1 := gc_cols hb
  have c3 := gc_row hb
  have c4 := gc_col hb
  have h1 := h.1.row
  have h2 := h.1.col
  have h3 := h.1.c2
  have h4 := h.1.c1
  have h5 := h.1.r2
  have hw1 : IntKind.i64.wrap ((g.at_.col : Int) - 1) = (g.at_.col : Int) - 1 := IntWalk.i64_in _ (by omega)
  have H := Lib.hid h
  clear h
  by_cases h8 : r = 8
  · subst h8
    go_enter Tryd.func31, Tryd.ntmps31
    go_wp2_with fail
    go_still_tail 12, (by kernel_rfl)
    change wpList _ _ _ _ _ w.drew
    go_wp2_with fail
    refine (move_any (by exact H.out.drew) (g.at_.row) ((g.at_.col : Int) - 1) (by omega) (by omega)).mono ?_
    rintro e w2 ⟨F2, rfl, hG2, hst2⟩
    go_wp2
    go_end0
    exact ⟨F2, rfl, hG2, (Step.refl F w).drew.trans hst2⟩
  by_cases h9 : r = 9
  · subst h9
    obtain ⟨tb, to, tc, hvt, htab⟩ : ∃ tb to tc, vt = .slice (some ⟨tb, to, none⟩) g.cols tc ∧ ∀ (k : Nat) (hk : k < g.cols), w.cell? ⟨tb, to + k, none⟩ = some (.bool (g.tabs.getD k false)) := by
      obtain ⟨hI, hF, vc', vt', vo', vp', bc, bt, bo, bp, rc, ro, rp, hM, hfoot⟩ := H.out
      have e := hM.blk.eq_ hb
      have e2 : vt' = vt := by have := congrArg (fun a : Array Value => a[22]?) e; simpa [gcells] using this
      subst e2
      have hT := hM.tabs
      have hl := hI.tabs
      rw [hl] at hT
      obtain ⟨tb, to, tc, cur, rfl, rfl, hB, _⟩ := hT.some_ (hT.ob_ (by omega))
      refine ⟨tb, to, tc, rfl, fun k hk => ?_⟩
      have := hT.cells k (.bool (g.tabs.getD k false)) (by rw [List.getElem?_map, List.getElem?_eq_getElem (by omega), List.getD_eq_getElem?_getD, List.getElem?_eq_getElem (by omega)]; rfl)
      exact this
    have c22 := gc_tabs hb
    rw [hvt] at c22
    have HT := Lib.hid htab
    have hw2 : IntKind.i64.wrap ((g.at_.col : Int) + 1) = (g.at_.col : Int) + 1 := IntWalk.i64_in _ (by omega)
    have hw3 : IntKind.i64.wrap ((g.cols : Int) - 1) = (g.cols : Int) - 1 := IntWalk.i64_in _ (by omega)
    clear hb htab hvt
    go_enter Tryd.func31, Tryd.ntmps31
    go_wp2_with fail
    go_loopw [4] (fun i wr => StopRel w g i wr) (fun i _ => g.cols - (intOf i).toNat)
    case atStart => exact ⟨g.at_.col + 1, g.cols, by go_num, rfl, rfl, rfl, by omega⟩
    case round =>
      obtain ⟨k, fuel, rfl, rfl, hst, hkf, hkc⟩ := hrel
      have HST := Lib.hid (And.intro hst hkf)
      clear hst hkf
      by_cases hlt : k < g.cols - 1
      · have hli : (k : Int) < (g.cols : Int) - 1 := by omega
        have hk0 : (0 : Int) ≤ (k : Int) := by omega
        have hk1 : (k : Int) < (g.cols : Int) := by omega
        have ck := HT.out k (by omega)
        cases ht : g.tabs.getD k false
        · rw [ht] at ck
          go_wp2
          go_simp
          go_roundw
          case rel =>
            obtain ⟨hst, hkf⟩ := HST.out
            obtain ⟨f, rfl⟩ : ∃ f, fuel = f + 1 := ⟨fuel - 1, by omega⟩
            refine ⟨k + 1, f, by go_num, rfl, ?_, by omega, by omega⟩
            rw [← hst]
            simp only [PG.G.nextStop]
            rw [if_pos ⟨hlt, ht⟩]
          case measure => simp [intOf]; omega
        · rw [ht] at ck
          go_wp2_with fail
          refine (move_any (by exact H.out) (g.at_.row) (k : Int) (by omega) (by omega)).mono ?_
          rintro e w2 ⟨F2, rfl, hG2, hst2⟩
          go_wp2
          go_end0
          obtain ⟨hst, hkf⟩ := HST.out
          obtain ⟨f, rfl⟩ : ∃ f, fuel = f + 1 := ⟨fuel - 1, by omega⟩
          have e : g.control 9 = g.move g.at_.row (k : Int) := by
            unfold PG.G.control
            rw [if_neg (by decide), if_pos rfl, ← hst]
            simp only [PG.G.nextStop]
            rw [if_neg (fun h => by rw [ht] at h; cases h.2)]
          rw [e]
          exact ⟨F2, rfl, hG2, hst2⟩
      · have hli : ¬ (k : Int) < (g.cols : Int) - 1 := by omega
        go_wp2_with fail
        refine (move_any (by exact H.out) (g.at_.row) (k : Int) (by omega) (by omega)).mono ?_
        rintro e w2 ⟨F2, rfl, hG2, hst2⟩
        go_wp2
        go_end0
        obtain ⟨hst, hkf⟩ := HST.out
        obtain ⟨f, rfl⟩ : ∃ f, fuel = f + 1 := ⟨fuel - 1, by omega⟩
        have e : g.control 9 = g.move g.at_.row (k : Int) := by
          unfold PG.G.control
          rw [if_neg (by decide), if_pos rfl, ← hst]
          simp only [PG.G.nextStop]
          rw [if_neg (fun h => hlt h.1)]
        rw [e]
        exact ⟨F2, rfl, hG2, hst2⟩
  clear hb
  by_cases h10 : r = 10
  · subst h10
    go_enter Tryd.func31, Tryd.ntmps31
    go_wp2_with fail
    refine (index_any (by exact H.out)).mono ?_
    rintro e w2 ⟨F2, rfl, hG2, hst2⟩
    go_wp2
    go_end0
    exact ⟨F2, rfl, hG2, hst2⟩
  by_cases h11 : r = 11
  · subst h11
    go_enter Tryd.func31, Tryd.ntmps31
    go_wp2_with fail
    refine (index_any (by exact H.out)).mono ?_
    rintro e w2 ⟨F2, rfl, hG2, hst2⟩
    go_wp2
    go_end0
    exact ⟨F2, rfl, hG2, hst2⟩
  by_cases h12 : r = 12
  · subst h12
    go_enter Tryd.func31, Tryd.ntmps31
    go_wp2_with fail
    refine (index_any (by exact H.out)).mono ?_
    rintro e w2 ⟨F2, rfl, hG2, hst2⟩
    go_wp2
    go_end0
    exact ⟨F2, rfl, hG2, hst2⟩
  by_cases h13 : r = 13
  · subst h13
    go_enter Tryd.func31, Tryd.ntmps31
    go_wp2_with fail
    refine (move_any (by exact H.out) (g.at_.row) 0 (by omega) (by omega)).mono ?_
    rintro e w2 ⟨F2, rfl, hG2, hst2⟩
    go_wp2
    go_end0
    exact ⟨F2, rfl, hG2, hst2⟩
  · have e1 : (r == 8) = false := by simpa using h8
    have e2 : (r == 9) = false := by simpa using h9
    have e3 : (r == 10) = false := by simpa using h10
    have e4 : (r == 11) = false := by simpa using h11
    have e5 : (r == 12) = false := by simpa using h12
    have e6 : (r == 13) = false := by simpa using h13
    have hfin : g.control r = g := by unfold PG.G.control; simp [h8, h9, h10, h11, h12, h13]
    rw [hfin]
    clear hfin
    go_enter Tryd.func31, Tryd.ntmps31
    go_wp2
    go_end0
    exact ⟨F, rfl, H.out, Step.refl _ _⟩

end Go.Proofs.YtdbepelcgmnbbaaDoor
