/- Lines and screens erased. -/
import Derived.Test.YtdbepelcgmnbbaaDoorWipe
namespace Go.Proofs.YtdbepelcgmnbbaaDoor
open Go Go.RowKit

set_option maxRecDepth 20000 in
set_option maxHeartbeats 2000000 in
theorem eraseLine_any {w : World} {p : Nat} {F : Nat → Prop} {g : PG.G} {vq : Value} (h : GridAt w p F g vq) (k : Int) :
    Calls Tryd.prog 65 #[.pointer (some ⟨p, 0, none⟩), .int .i64 k] w (GPost w p F (g.eraseLine k) vq) := by
  obtain ⟨vc, vt, vo, vp, hb⟩ := h.blk
  have c1 := gc_cols hb
  have c3 := gc_row hb
  have c4 := gc_col hb
  have h1 := h.1.row
  have h2 := h.1.col
  have h3 := h.1.c2
  have h4 := h.1.c1
  have hadd := Lib.hid (show ((g.at_.col + 1 : Nat) : Int) = (g.at_.col : Int) + 1 by omega)
  have hw : IntKind.i64.wrap ((g.at_.col : Int) + 1) = (g.at_.col : Int) + 1 := IntWalk.i64_in _ (by omega)
  have H := Lib.hid h
  clear h
  by_cases h0 : k = 0
  · subst h0
    go_enter Tryd.func65, Tryd.ntmps65
    go_wp2_with fail
    go_region_held3 (fun w' => w'.cell? ⟨p, 1, none⟩ = some (.int .i64 g.cols) ∧ w'.cell? ⟨p, 3, none⟩ = some (.int .i64 g.at_.row) ∧ w'.cell? ⟨p, 4, none⟩ = some (.int .i64 g.at_.col)) (go_keep) (first
      | (go_at_call 73; refine (wipe_any (by exact H.out.drew) g.at_.row g.at_.col g.cols (by omega) (by omega) (by omega)).mono ?_; rintro e w2 ⟨F2, rfl, hG2, hst2⟩; obtain ⟨_, _, _, _, hb2⟩ := hG2.blk; have k1 : w2.cell? ⟨p, 1, none⟩ = some (.int .i64 g.cols) := gc_cols hb2; have k3 : w2.cell? ⟨p, 3, none⟩ = some (.int .i64 g.at_.row) := gc_row hb2; have k4 : w2.cell? ⟨p, 4, none⟩ = some (.int .i64 g.at_.col) := gc_col hb2; have HG := Lib.hid (And.intro hG2 hst2); clear hG2 hst2 hb2))
    all_goals go_end0
    exact ⟨F2, rfl, HG.out.1, (Step.refl F w).drew.trans HG.out.2⟩
  by_cases h10 : k = 1
  · subst h10
    go_enter Tryd.func65, Tryd.ntmps65
    go_wp2_with fail
    go_region_held3 (fun w' => w'.cell? ⟨p, 3, none⟩ = some (.int .i64 g.at_.row) ∧ w'.cell? ⟨p, 4, none⟩ = some (.int .i64 g.at_.col)) (go_keep) (first
      | (go_at_call 73; rw [← hadd.out]; refine (wipe_any (by exact H.out.drew) g.at_.row 0 (g.at_.col + 1) (by omega) (by omega) (by omega)).mono ?_; rintro e w2 ⟨F2, rfl, hG2, hst2⟩; obtain ⟨_, _, _, _, hb2⟩ := hG2.blk; have k3 : w2.cell? ⟨p, 3, none⟩ = some (.int .i64 g.at_.row) := gc_row hb2; have k4 : w2.cell? ⟨p, 4, none⟩ = some (.int .i64 g.at_.col) := gc_col hb2; have HG := Lib.hid (And.intro hG2 hst2); clear hG2 hst2 hb2))
    all_goals go_end0
    exact ⟨F2, rfl, HG.out.1, (Step.refl F w).drew.trans HG.out.2⟩
  by_cases h20 : k = 2
  · subst h20
    go_enter Tryd.func65, Tryd.ntmps65
    go_wp2_with fail
    go_region_held3 (fun w' => w'.cell? ⟨p, 1, none⟩ = some (.int .i64 g.cols) ∧ w'.cell? ⟨p, 3, none⟩ = some (.int .i64 g.at_.row)) (go_keep) (first
      | (go_at_call 73; refine (wipe_any (by exact H.out.drew) g.at_.row 0 g.cols (by omega) (by omega) (by omega)).mono ?_; rintro e w2 ⟨F2, rfl, hG2, hst2⟩; obtain ⟨_, _, _, _, hb2⟩ := hG2.blk; have k1 : w2.cell? ⟨p, 1, none⟩ = some (.int .i64 g.cols) := gc_cols hb2; have k3 : w2.cell? ⟨p, 3, none⟩ = some (.int .i64 g.at_.row) := gc_row hb2; have HG := Lib.hid (And.intro hG2 hst2); clear hG2 hst2 hb2))
    all_goals go_end0
    exact ⟨F2, rfl, HG.out.1, (Step.refl F w).drew.trans HG.out.2⟩
  · have e0 : (k == 0) = false := by simpa using h0
    have e1 : (k == 1) = false := by simpa using h10
    have e2 : (k == 2) = false := by simpa using h20
    have hfin : g.eraseLine k = g := by unfold PG.G.eraseLine; simp [h0, h10, h20]
    rw [hfin]
    clear hfin
    go_enter Tryd.func65, Tryd.ntmps65
    go_wp2
    go_end0
    exact ⟨F, rfl, H.out, Step.refl _ _⟩

theorem eraseRows_same (k : Int) (g : PG.G) : ∀ l : List Nat, (l.foldl (PG.G.eraseRow k) g).rows = g.rows ∧ (l.foldl (PG.G.eraseRow k) g).cols = g.cols ∧ (l.foldl (PG.G.eraseRow k) g).at_ = g.at_ := by
  intro l
  induction l generalizing g with
  | nil => exact ⟨rfl, rfl, rfl⟩
  | cons a r ih =>
    obtain ⟨h1, h2, h3⟩ := ih (PG.G.eraseRow k g a)
    obtain ⟨e1, e2, e3⟩ := PG.G.eraseRow_same k g a
    exact ⟨h1.trans e1, h2.trans e2, h3.trans e3⟩

/-- The rows that are erased, one by one. -/
def EraseRel (w : World) (p : Nat) (F : Nat → Prop) (g : PG.G) (k : Int) (vq : Value) (i : Value) (wr : World) : Prop :=
  ∃ (n : Nat) (F' : Nat → Prop), n ≤ g.rows ∧ i = .int .i64 n ∧ GridAt wr p F' ((List.range n).foldl (PG.G.eraseRow k) g) vq ∧ Step F F' w wr

set_option maxRecDepth 20000 in
set_option maxHeartbeats 4000000 in
theorem erase_any {w : World} {p : Nat} {F : Nat → Prop} {g : PG.G} {vq : Value} (h : GridAt w p F g vq) (k : Int) :
    Calls Tryd.prog 64 #[.pointer (some ⟨p, 0, none⟩), .int .i64 k] w (GPost w p F (g.erase k) vq) := by
  by_cases h3 : k = 3
  · subst h3
    obtain ⟨hI, hF, vc, vt, vo, vp, bc, bt, bo, bp, rc, ro, rp, hM, hfoot⟩ := h
    have hb := hM.blk
    have c31 := gc_past hb
    have f31 := hb.frozen 31
    have hfin : g.erase 3 = { g with past := [] } := by unfold PG.G.erase; simp
    have HFIN := Lib.hid hfin
    clear hfin
    go_enter Tryd.func64, Tryd.ntmps64
    go_wp2
    go_end0
    rw [HFIN.out]
    have hon : On w (w.setCell ⟨p, 31, none⟩ (.slice none 0 0)) p 52 (gcells { g with past := [] } vc vt vo (.slice none 0 0) vq) := (On.refl hb).set 31 _
    have hM2 : GridMem (w.setCell ⟨p, 31, none⟩ (.slice none 0 0)) p { g with past := [] } vc vt vo (.slice none 0 0) vq bc bt bo none rc ro [] := by
      refine hM.newpast (fun b hb hn _ => hon.2.block b hb (by simpa using hn)) hon.1 (RowsAt.nil _) rfl rfl rfl ?_ ?_
      · have := hM.outs; simp only [List.nodup_append] at this ⊢; simp_all
      · have := hM.rws; simp only [List.nodup_append] at this ⊢; simp_all
    refine ⟨F, rfl, ⟨hI.withPast PG.G.nil_past, fun b hb => Nat.lt_of_lt_of_le (hF b hb) hon.2.size, vc, vt, vo, _, bc, bt, bo, none, rc, ro, [], hM2, fun b hb => hfoot b ?_⟩, Step.of_on hon (hfoot p (.inl rfl))⟩
    rcases hb with hb | hb | hb | hb | hb | hb | hb | hb
    · exact .inl hb
    · exact .inr (.inl hb)
    · exact .inr (.inr (.inl hb))
    · exact .inr (.inr (.inr (.inl hb)))
    · cases hb
    · exact .inr (.inr (.inr (.inr (.inr (.inl hb)))))
    · exact .inr (.inr (.inr (.inr (.inr (.inr (.inl hb))))))
    · cases hb
  have e3 : (k == 3) = false := by simpa using h3
  by_cases hk : k < 0 ∨ 2 < k
  · have hfin : g.erase k = g := by unfold PG.G.erase; simp [h3, hk]
    rw [hfin]
    clear hfin
    have H := Lib.hid h
    clear h
    rcases hk with hk | hk
    · go_enter Tryd.func64, Tryd.ntmps64
      go_wp2
      go_end0
      exact ⟨F, rfl, H.out, Step.refl _ _⟩
    · have hk0 : ¬ k < 0 := by omega
      go_enter Tryd.func64, Tryd.ntmps64
      go_wp2
      go_end0
      exact ⟨F, rfl, H.out, Step.refl _ _⟩
  have hk0 : ¬ k < 0 := by omega
  have hk2 : ¬ 2 < k := by omega
  have hfin : g.erase k = (List.range g.rows).foldl (PG.G.eraseRow k) (g.eraseLine k) := by unfold PG.G.erase; simp [h3, hk]
  have HFIN := Lib.hid hfin
  have HK := Lib.hid (show k = 0 ∨ k = 1 ∨ k = 2 by omega)
  have H := Lib.hid h
  obtain ⟨er, ec, ea⟩ := PG.G.eraseLine_rows g k
  have HE := Lib.hid (And.intro er (And.intro ec ea))
  have hr2 := h.1.r2
  have hc1 := h.1.c1
  clear hfin h er ec ea hk h3
  go_enter Tryd.func64, Tryd.ntmps64
  go_wp2_with fail
  refine (eraseLine_any (by exact H.out) k).mono ?_
  rintro e w2 ⟨F2, rfl, hG2, hst2⟩
  obtain ⟨_, _, _, _, hb2⟩ := hG2.blk
  have k0 : w2.cell? ⟨p, 0, none⟩ = some (.int .i64 g.rows) := (gc_rows hb2).trans (by rw [HE.out.1])
  have HG2 := Lib.hid hG2
  have HST2 := Lib.hid hst2
  clear hG2 hst2 hb2
  go_wp2_with fail
  go_loopw [4, 23] (fun _ i wr => EraseRel w2 p F2 (g.eraseLine k) k vq i wr) (fun _ i _ => g.rows - (intOf i).toNat)
  case atStart => exact ⟨0, F2, Nat.zero_le _, rfl, HG2.out, Step.refl _ _⟩
  case round =>
    obtain ⟨n, F3, hn, rfl, hG3, hst3⟩ := hrel
    obtain ⟨s1, s2, s3⟩ := eraseRows_same k (g.eraseLine k) (List.range n)
    rw [HE.out.1] at s1
    rw [HE.out.2.1] at s2
    rw [HE.out.2.2] at s3
    rw [HE.out.1] at hn
    have H3 := Lib.hid (And.intro hG3 hst3)
    have hsnoc : (List.range (n + 1)).foldl (PG.G.eraseRow k) (g.eraseLine k) = PG.G.eraseRow k ((List.range n).foldl (PG.G.eraseRow k) (g.eraseLine k)) n := by rw [List.range_succ, List.foldl_append]; rfl
    have HS := Lib.hid hsnoc
    obtain ⟨g3, hg3⟩ : ∃ g3, g3 = (List.range n).foldl (PG.G.eraseRow k) (g.eraseLine k) := ⟨_, rfl⟩
    rw [← hg3] at H3 HS s1 s2 s3
    have HG3 := Lib.hid hg3
    clear hG3 hst3 hsnoc hg3
    obtain ⟨_, _, _, _, hb3⟩ := H3.out.1.blk
    have k1 := gc_cols hb3
    have k3 := gc_row hb3
    rw [s2] at k1
    rw [s3] at k3
    have S := Lib.hid (And.intro s1 (And.intro s2 s3))
    clear s1 s2 s3 hb3
    by_cases hlt : n < g.rows
    · have hli : (n : Int) < (g.rows : Int) := by omega
      rcases HK.out with rfl | rfl | rfl
      · by_cases hc : g.at_.row < n
        · have hci : (g.at_.row : Int) < (n : Int) := by omega
          go_wp2_with fail
          refine (wipe_any (by exact H3.out.1) n 0 g.cols (by rw [S.out.1]; exact hlt) (by omega) (by rw [S.out.2.1]; exact Nat.le_refl _)).mono ?_
          rintro e w4 ⟨F4, rfl, hG4, hst4⟩
          go_wp2
          go_simp
          go_roundw
          case rel =>
            refine ⟨n + 1, F4, by rw [HE.out.1]; omega, by go_num, ?_, H3.out.2.trans hst4⟩
            rw [HS.out, show PG.G.eraseRow _ g3 n = g3.wipe n 0 g3.cols from if_pos (by rw [S.out.2.2]; omega), S.out.2.1]
            exact hG4
          case measure => simp [intOf]; omega
        · have hci : ¬ (g.at_.row : Int) < (n : Int) := by omega
          go_wp2
          go_simp
          go_roundw
          case rel =>
            refine ⟨n + 1, F3, by rw [HE.out.1]; omega, by go_num, ?_, H3.out.2⟩
            rw [HS.out, show PG.G.eraseRow _ g3 n = g3 from if_neg (by rw [S.out.2.2]; omega)]
            exact H3.out.1
          case measure => simp [intOf]; omega
      · by_cases hc : n < g.at_.row
        · have hci : (n : Int) < (g.at_.row : Int) := by omega
          go_wp2_with fail
          refine (wipe_any (by exact H3.out.1) n 0 g.cols (by rw [S.out.1]; exact hlt) (by omega) (by rw [S.out.2.1]; exact Nat.le_refl _)).mono ?_
          rintro e w4 ⟨F4, rfl, hG4, hst4⟩
          go_wp2
          go_simp
          go_roundw
          case rel =>
            refine ⟨n + 1, F4, by rw [HE.out.1]; omega, by go_num, ?_, H3.out.2.trans hst4⟩
            rw [HS.out, show PG.G.eraseRow _ g3 n = g3.wipe n 0 g3.cols from if_pos (by rw [S.out.2.2]; omega), S.out.2.1]
            exact hG4
          case measure => simp [intOf]; omega
        · have hci : ¬ (n : Int) < (g.at_.row : Int) := by omega
          go_wp2
          go_simp
          go_roundw
          case rel =>
            refine ⟨n + 1, F3, by rw [HE.out.1]; omega, by go_num, ?_, H3.out.2⟩
            rw [HS.out, show PG.G.eraseRow _ g3 n = g3 from if_neg (by rw [S.out.2.2]; omega)]
            exact H3.out.1
          case measure => simp [intOf]; omega
      · go_wp2_with fail
        refine (wipe_any (by exact H3.out.1) n 0 g.cols (by rw [S.out.1]; exact hlt) (by omega) (by rw [S.out.2.1]; exact Nat.le_refl _)).mono ?_
        rintro e w4 ⟨F4, rfl, hG4, hst4⟩
        go_wp2
        go_simp
        go_roundw
        case rel =>
          refine ⟨n + 1, F4, by rw [HE.out.1]; omega, by go_num, ?_, H3.out.2.trans hst4⟩
          rw [HS.out, show PG.G.eraseRow _ g3 n = g3.wipe n 0 g3.cols from if_pos (by rw [S.out.2.2]; omega), S.out.2.1]
          exact hG4
        case measure => simp [intOf]; omega
    · have hli : ¬ (n : Int) < (g.rows : Int) := by omega
      go_wp2
      go_end0
      rw [HFIN.out]
      have e : n = g.rows := by omega
      rw [← e, ← HG3.out]
      exact ⟨F3, rfl, H3.out.1, HST2.out.trans H3.out.2⟩

end Go.Proofs.YtdbepelcgmnbbaaDoor
