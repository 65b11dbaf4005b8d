/- The region moves up, down; the next row. -/
import Derived.Test.YtdbepelcgmnbbaaDoorKeep
namespace Go.Proofs.YtdbepelcgmnbbaaDoor
open Go Go.RowKit

theorem eql_nil_lines {v : Value} {w : World} {o : Option (List PG.Line)} {ob : Option Nat} {rb : List Nat} (h : OtherAt w v o ob rb) (W : World) : (binOp .eql 35 v (.slice none 0 0)).run Tryd.prog W = .ok (.bool o.isNone) W := by
  unfold OtherAt at h
  cases o with
  | none => obtain ⟨rfl, _, _⟩ := h; simpa using Lib.run_eql_slice_nil (P := Tryd.prog) W 35 40 none 0 0 0 0 Tryd.underlying35
  | some L =>
    obtain ⟨⟨vals, hS, _⟩, hne⟩ := h
    obtain ⟨b, o, c, cur, rfl, _⟩ := hS.some_ hne
    simpa using Lib.run_eql_slice_nil (P := Tryd.prog) W 35 40 (some ⟨b, o, none⟩) L.length c 0 0 Tryd.underlying35

theorem OtherAt.form {v : Value} {w : World} {o : Option (List PG.Line)} {ob : Option Nat} {rb : List Nat} (h : OtherAt w v o ob rb) : ∃ a n c, v = .slice a n c := by
  unfold OtherAt at h
  cases o with
  | none => exact ⟨_, _, _, h.1⟩
  | some L =>
    obtain ⟨⟨vals, hS, _⟩, _⟩ := h
    obtain ⟨a, c, e, _⟩ := hS.form
    exact ⟨_, _, _, e⟩

theorem GridMem.at_ {w : World} {p : Nat} {F : Nat → Prop} {g : PG.G} {vc vt vo vp vq : Value} {bc bt bo bp : Option Nat} {rc ro rp : List Nat} (hI : g.Inv) (hM : GridMem w p g vc vt vo vp vq bc bt bo bp rc ro rp) (hf : ∀ b, footG p bc bt bo bp rc ro rp b → F b) (hF : ∀ b, F b → b < w.heap.size) : GridAt w p F g vq :=
  ⟨hI, hF, vc, vt, vo, vp, bc, bt, bo, bp, rc, ro, rp, hM, hf⟩

/-- The rows that go into the past, one by one. -/
def KeepRel (w : World) (p : Nat) (g : PG.G) (vc vt vo vq : Value) (bc bt bo bp : Option Nat) (rc ro rp : List Nat) (n1 : Nat) (i : Value) (wr : World) : Prop :=
  ∃ (k : Nat) (vp' : Value) (bp' : Option Nat) (rp' : List Nat), k ≤ n1 ∧ i = .int .i64 k ∧ GridMem wr p { g with past := PG.keepAll g.past (g.cells.take k) } vc vt vo vp' vq bc bt bo bp' rc ro rp' ∧
    PG.G.Inv { g with past := PG.keepAll g.past (g.cells.take k) } ∧ Step (fun k => k = p ∨ bp = some k) (fun k => k = p ∨ bp' = some k) w wr ∧ (∀ b ∈ rp', b ∈ rp ∨ w.heap.size ≤ b)

set_option maxRecDepth 20000 in
set_option maxHeartbeats 4000000 in
theorem up_any {w : World} {p : Nat} {F : Nat → Prop} {g : PG.G} {vq : Value} (h : GridAt w p F g vq) (n : Nat) (hn : n ≤ 100000) :
    Calls Tryd.prog 61 #[.pointer (some ⟨p, 0, none⟩), .int .i64 n] w (GPost w p F (g.up n) vq) := by
  obtain ⟨hI, hF, vc, vt, vo, vp, bc, bt, bo, bp, rc, ro, rp, hM, hfoot⟩ := h
  have hb := hM.blk
  have c2 := gc_cells hb
  have c17 := gc_top hb
  have c18 := gc_bottom hb
  have c23 := gc_other hb
  have heq := eql_nil_lines hM.other
  obtain ⟨oa, on, oc, rfl⟩ := hM.other.form
  have h1 := hI.bottom
  have h2 := hI.r2
  have h3 := hI.top
  obtain ⟨n1, hn1⟩ : ∃ n1, n1 = min n (g.bottom - g.top + 1) := ⟨_, rfl⟩
  have hmin : (if (g.bottom : Int) - (g.top : Int) + 1 < (n : Int) then (g.bottom : Int) - (g.top : Int) + 1 else (n : Int)) = (n1 : Int) := by split <;> omega
  have hn1r : n1 ≤ g.bottom - g.top + 1 := by omega
  have HN := Lib.hid hn1
  clear hn1
  have hcl := hI.cells.1
  obtain ⟨vals, hS, _⟩ := id hM.cells
  obtain ⟨b, o, cap, cur, rfl, rfl, hB, hcap, _⟩ := hS.some_ (hS.ob_ (by omega))
  rw [hcl] at hcap c2
  have hn1c : n1 ≤ cap := by omega
  have HCL := Lib.hid hcl
  clear hcl hS
  have hup : ∀ g1 : PG.G, g1.top = g.top → g1.bottom = g.bottom → g1.take g1.top (min n (g.bottom - g.top + 1)) = g1.take g.top n1 := by
    intro g1 e1 e2
    rw [e1, HN.out]
  by_cases hc : g.top = 0 ∧ g.other = none
  · obtain ⟨ht, ho⟩ := hc
    have ht1 : ((g.top : Int) == 0) = true := by rw [ht]; rfl
    have ho1 : g.other.isNone = true := by rw [ho]; rfl
    have hfin : g.up n = PG.G.take { g with past := PG.keepAll g.past (g.cells.take n1) } g.top n1 := by
      unfold PG.G.up
      simp only [ht, ho, and_self, if_true]
      rw [HN.out, ht]
    have HFIN := Lib.hid hfin
    have HT := Lib.hid ht
    clear ht ho hfin hup
    go_enter Tryd.func61, Tryd.ntmps61
    go_wp2
    go_region
    go_wp2_with fail
    go_loopw [5, 37] (fun _ i wr => KeepRel w p g (.slice (some ⟨b, o, none⟩) g.cells.length cap) vt (.slice oa on oc) vq (some b) bt bo bp rc ro rp n1 i wr) (fun _ i _ => n1 - (intOf i).toNat)
    case atStart =>
      have e0 : ({ g with past := PG.keepAll g.past (g.cells.take 0) } : PG.G) = g := rfl
      refine ⟨0, vp, bp, rp, Nat.zero_le _, rfl, ?_, ?_, (Step.refl _ w).drew, fun b hb => .inl hb⟩
      · rw [e0]; exact hM.same fun _ _ => rfl
      · rw [e0]; exact hI
    case round =>
      obtain ⟨k, vp1, bp1, rp1, hk, rfl, hM1, hI1, hs1, hr1⟩ := hrel
      by_cases hlt : k < n1
      · have hkl : k < g.cells.length := by have := HCL.out; omega
        have hLk : g.cells[k]? = some g.cells[k] := List.getElem?_eq_getElem hkl
        obtain ⟨l, hle⟩ : ∃ l, l = g.cells[k] := ⟨_, rfl⟩
        rw [← hle] at hLk
        obtain ⟨bo', oo', co', lb, lo, lc, hv, hob, _, hcell, hrb, hlc, hrow⟩ := hM1.cells.row hLk
        cases hv
        have hlp := hI.line_past (List.mem_of_getElem? hLk)
        have hka : PG.keepAll g.past (g.cells.take (k + 1)) = PG.keep1 (PG.keepAll g.past (g.cells.take k)) l := by
          rw [List.take_succ_eq_append_getElem hkl, ← hle]
          simp [PG.keepAll]
        have HKA := Lib.hid hka
        clear hka hle hLk
        go_wp2_with fail
        refine (keep_mem hI1 hM1 _ lb lc l (by exact hrow) hlp.1 hlp.2).mono ?_
        rintro e w2 ⟨vp2, bp2, rp2, rfl, hM2, hI2, hs2, hr2⟩
        go_wp2
        go_simp
        go_roundw
        case rel =>
          refine ⟨k + 1, vp2, bp2, rp2, by omega, by go_num, by rw [HKA.out]; exact hM2, by rw [HKA.out]; exact hI2, hs1.trans hs2, fun x hx => ?_⟩
          rcases hr2 x hx with h | h
          · exact hr1 x h
          · exact .inr (Nat.le_trans hs1.size h)
        case measure => simp [intOf]; omega
      · have hkn : k = n1 := by omega
        subst hkn
        have c17' := gc_top hM1.blk
        have hFp := KeepPost.gpost (F := F) (e := .returned (.tuple #[])) ⟨vp1, bp1, rp1, rfl, hM1, hI1, hs1, hr1⟩ hfoot
        obtain ⟨F1, _, hG1, hst⟩ := hFp
        go_wp2_with fail
        refine (take_any hG1 g.top k (by exact h3) (by omega)).mono ?_
        rintro e w2 ⟨F2, rfl, hG2, hst2⟩
        go_wp2
        go_end0
        rw [HFIN.out]
        exact ⟨F2, rfl, hG2, hst.trans hst2⟩
  · have hfin : g.up n = g.take g.top n1 := by
      unfold PG.G.up
      simp only [if_neg hc]
      rw [HN.out]
    have HFIN := Lib.hid hfin
    by_cases ht : g.top = 0
    · have ht1 : ((g.top : Int) == 0) = true := by rw [ht]; rfl
      have ho1 : g.other.isNone = false := by
        cases he : g.other with
        | none => exact absurd ⟨ht, he⟩ hc
        | some L => rfl
      clear ht hc hfin hup
      go_enter Tryd.func61, Tryd.ntmps61
      go_wp2
      go_region
      go_wp2_with fail
      refine (take_any (w := w.drew) (GridMem.at_ hI (hM.same fun _ _ => rfl) hfoot hF) g.top n1 (by exact h3) (by omega)).mono ?_
      rintro e w2 ⟨F2, rfl, hG2, hst2⟩
      go_wp2
      go_end0
      rw [HFIN.out]
      exact ⟨F2, rfl, hG2, (Step.refl F w).drew.trans hst2⟩
    · have ht1 : ((g.top : Int) == 0) = false := by simp; omega
      clear hc hfin hup
      go_enter Tryd.func61, Tryd.ntmps61
      go_wp2
      go_region
      go_wp2_with fail
      refine (take_any (w := w.drew) (GridMem.at_ hI (hM.same fun _ _ => rfl) hfoot hF) g.top n1 (by exact h3) (by omega)).mono ?_
      rintro e w2 ⟨F2, rfl, hG2, hst2⟩
      go_wp2
      go_end0
      rw [HFIN.out]
      exact ⟨F2, rfl, hG2, (Step.refl F w).drew.trans hst2⟩

theorem GridAt.drew {w : World} {p : Nat} {F : Nat → Prop} {g : PG.G} {vq : Value} (h : GridAt w p F g vq) : GridAt w.drew p F g vq := by
  obtain ⟨hI, hF, vc, vt, vo, vp, bc, bt, bo, bp, rc, ro, rp, hM, hfoot⟩ := h
  exact ⟨hI, hF, vc, vt, vo, vp, bc, bt, bo, bp, rc, ro, rp, hM.same fun _ _ => rfl, hfoot⟩
theorem GridAt.drewN {w : World} {p : Nat} {F : Nat → Prop} {g : PG.G} {vq : Value} (h : GridAt w p F g vq) (n : Nat) : GridAt (w.drewN n) p F g vq := by
  obtain ⟨hI, hF, vc, vt, vo, vp, bc, bt, bo, bp, rc, ro, rp, hM, hfoot⟩ := h
  exact ⟨hI, hF, vc, vt, vo, vp, bc, bt, bo, bp, rc, ro, rp, hM.same fun _ _ => rfl, hfoot⟩
/-- The grid's block, with the facts on its numbers. -/
theorem GridAt.blk {w : World} {p : Nat} {F : Nat → Prop} {g : PG.G} {vq : Value} (h : GridAt w p F g vq) : ∃ vc vt vo vp, Blk w p 52 (gcells g vc vt vo vp vq) := by
  obtain ⟨hI, hF, vc, vt, vo, vp, bc, bt, bo, bp, rc, ro, rp, hM, hfoot⟩ := h
  exact ⟨vc, vt, vo, vp, hM.blk⟩
/-- Numbers of the grid turn, nothing else. -/
theorem GridAt.scalar {w w' : World} {p : Nat} {F : Nat → Prop} {g g' : PG.G} {vq : Value} (h : GridAt w p F g vq) (hI' : g'.Inv) (ho : ∀ vc vt vo vp, Blk w p 52 (gcells g vc vt vo vp vq) → On w w' p 52 (gcells g' vc vt vo vp vq))
    (e1 : g'.cells = g.cells) (e2 : g'.tabs = g.tabs) (e3 : g'.other = g.other) (e4 : g'.past = g.past) : GridAt w' p F g' vq ∧ Step F F w w' := by
  obtain ⟨hI, hF, vc, vt, vo, vp, bc, bt, bo, bp, rc, ro, rp, hM, hfoot⟩ := h
  have hon := ho vc vt vo vp hM.blk
  exact ⟨⟨hI', fun b hb => Nat.lt_of_lt_of_le (hF b hb) hon.2.size, vc, vt, vo, vp, bc, bt, bo, bp, rc, ro, rp, hM.scalar hon e1 e2 e3 e4, hfoot⟩, Step.of_on hon (hfoot p (.inl rfl))⟩

set_option maxRecDepth 20000 in
set_option maxHeartbeats 1000000 in
theorem down_any {w : World} {p : Nat} {F : Nat → Prop} {g : PG.G} {vq : Value} (h : GridAt w p F g vq) (n : Nat) (hn : n ≤ 100000) :
    Calls Tryd.prog 49 #[.pointer (some ⟨p, 0, none⟩), .int .i64 n] w (GPost w p F (g.down n) vq) := by
  obtain ⟨vc, vt, vo, vp, hb⟩ := h.blk
  have c17 := gc_top hb
  go_enter Tryd.func49, Tryd.ntmps49
  go_wp2_with fail
  refine (put_any (by exact h) g.top n (by exact h.1.top) hn).mono ?_
  rintro e w2 ⟨F2, rfl, hG2, hst2⟩
  go_wp2
  go_end0
  exact ⟨F2, rfl, hG2, hst2⟩

set_option maxRecDepth 20000 in
set_option maxHeartbeats 1000000 in
theorem index_any {w : World} {p : Nat} {F : Nat → Prop} {g : PG.G} {vq : Value} (h : GridAt w p F g vq) :
    Calls Tryd.prog 46 #[.pointer (some ⟨p, 0, none⟩)] w (GPost w p F g.index vq) := by
  obtain ⟨vc, vt, vo, vp, hb⟩ := h.blk
  have c0 := gc_rows hb
  have c3 := gc_row hb
  have c5 := gc_due hb
  have c18 := gc_bottom hb
  have f3 := hb.frozen 3
  have f5 := hb.frozen 5
  have hr := h.1.row
  have hr2 := h.1.r2
  obtain ⟨w1, hw1⟩ : ∃ w1, w1 = w.setCell ⟨p, 5, none⟩ (.bool false) := ⟨_, rfl⟩
  have h1 : GridAt w1 p F { g with at_ := { g.at_ with due := false } } vq ∧ Step F F w w1 := by
    rw [hw1]
    refine h.scalar (h.1.withDue false) (fun vc vt vo vp hb => on_ex ⟨_, (On.refl hb).set 5 _, ?_⟩) rfl rfl rfl rfl
    simp [gcells]
  rw [hw1] at h1
  clear hw1
  by_cases hc : g.at_.row = g.bottom
  · have hc1 : ((g.at_.row : Int) == (g.bottom : Int)) = true := by rw [hc]; simp
    have hfin : g.index = PG.G.up { g with at_ := { g.at_ with due := false } } 1 := by unfold PG.G.index; simp [hc]
    have HFIN := Lib.hid hfin
    clear hfin hc
    go_enter Tryd.func46, Tryd.ntmps46
    go_wp2
    go_region
    go_wp2_with fail
    refine (up_any (by exact h1.1.drew) 1 (by omega)).mono ?_
    rintro e w2 ⟨F2, rfl, hG2, hst2⟩
    go_wp2
    go_end0
    rw [HFIN.out]
    exact ⟨F2, rfl, hG2, h1.2.drew.trans hst2⟩
  · have hc1 : ((g.at_.row : Int) == (g.bottom : Int)) = false := by simp; omega
    by_cases hlt : g.at_.row < g.rows - 1
    · have hl1 : (g.at_.row : Int) < (g.rows : Int) - 1 := by omega
      have hfin : g.index = { g with at_ := { g.at_ with due := false, row := g.at_.row + 1 } } := by unfold PG.G.index; simp [hc, hlt]
      have hI' := h.1.index
      have HFIN := Lib.hid hfin
      clear hfin hc
      go_enter Tryd.func46, Tryd.ntmps46
      go_wp2
      go_region
      go_wp2
      go_region
      go_wp2
      go_end0
      rw [HFIN.out] at hI' ⊢
      have h2 := h.scalar (w' := ((w.setCell ⟨p, 5, none⟩ (.bool false)).setCell ⟨p, 3, none⟩ (.int .i64 ((g.at_.row : Int) + 1))).drew.drew) hI' (fun vc vt vo vp hb => on_ex ⟨_, (((On.refl hb).set 5 _).set 3 _).drew.drew, by simp [gcells]⟩) rfl rfl rfl rfl
      exact ⟨F, rfl, h2.1, h2.2⟩
    · have hl1 : ¬ (g.at_.row : Int) < (g.rows : Int) - 1 := by omega
      have hfin : g.index = { g with at_ := { g.at_ with due := false } } := by unfold PG.G.index; simp [hc, hlt]
      have HFIN := Lib.hid hfin
      clear hfin hc
      go_enter Tryd.func46, Tryd.ntmps46
      go_wp2
      go_region
      go_wp2
      go_region
      go_wp2
      go_end0
      rw [HFIN.out]
      exact ⟨F, rfl, h1.1.drew.drew, h1.2.drew.drew⟩

end Go.Proofs.YtdbepelcgmnbbaaDoor
