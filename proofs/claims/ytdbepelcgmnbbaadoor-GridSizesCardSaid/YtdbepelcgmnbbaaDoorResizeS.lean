/- A screen is made another size: one is put away. -/
import Derived.Test.YtdbepelcgmnbbaaDoorResizeC
namespace Go.Proofs.YtdbepelcgmnbbaaDoor
open Go Go.RowKit

theorem resized_some {w w1 W1 w2 wk wr : World} {p q rows cols lost lost1 R R1 xb xo xk tb : Nat} {F : Nat → Prop} {g g1 gA gD : PG.G} {L past2 : List PG.Line} {vc v1 vt vo vp vp1 vq v2 : Value} {bc bt bt' bo bp bp1 o1 o2 : Option Nat} {rc ro rp rp1 r1 r2 : List Nat} {cs1 : Array Value}
    (hI : g.Inv) (hM : GridMem w p g vc vt vo vp vq bc bt bo bp rc ro rp) (hfoot : ∀ b, footG p bc bt bo bp rc ro rp b → F b) (ho : g.other = some L) (h1 : 1 ≤ rows) (h2 : rows ≤ 60) (h3 : 1 ≤ cols) (h4 : cols ≤ 120)
    (hR1 : RowsAt w1 v1 (PG.G.fit g.cells g.at_.row rows cols) o1 r1) (ho1 : ∀ b, o1 = some b → w.heap.size ≤ b) (hr1 : ∀ b ∈ r1, w.heap.size ≤ b) (hb1 : Below w.heap.size w w1)
    (hon1 : On w1 W1 p 52 cs1) (_hM1 : GridMem W1 p g1 v1 vt vo vp vq o1 bt bo bp r1 ro rp) (hWs : W1.heap.size = w1.heap.size)
    (hR2 : RowsAt w2 v2 (PG.G.fit L g.away.row rows cols) o2 r2) (ho2 : ∀ b, o2 = some b → W1.heap.size ≤ b) (hr2 : ∀ b ∈ r2, W1.heap.size ≤ b) (hn2 : r2.Nodup) (hb2 : Below W1.heap.size W1 w2)
    (hMk : GridMem wk p { g1 with past := past2 } v1 vt vo vp1 vq o1 bt bo bp1 r1 ro rp1) (hs1 : Step (fun b => b = p ∨ bp = some b) (fun b => b = p ∨ bp1 = some b) w2 wk) (hr3 : ∀ b ∈ rp1, b ∈ rp ∨ w2.heap.size ≤ b)
    (hpast2 : past2 = PG.keepAll g.past ((L.take lost).map (PG.G.fitLine cols))) (hlost : lost = PG.G.lost g.away.row rows) (hlost1 : lost1 = PG.G.lost g.at_.row rows)
    (hg1 : g1 = { g with cells := PG.G.fit g.cells g.at_.row rows cols, at_ := { g.at_ with row := R1 } }) (hR1' : R1 = g.at_.row - lost1) (hbt : bt = some tb)
    (hst : Step (fun b => b = p ∨ some tb = some b) (fun b => b = p ∨ bt' = some b) wk wr) (hB : Blk wr p 52 (gcells gD v1 (.slice (some ⟨xb, xo, none⟩) q xk) v2 vp1 vq)) (hT : SlAt wr 4 1 (.slice (some ⟨xb, xo, none⟩) q xk) q ((tabsExt g.tabs q).map Value.bool) bt')
    (hq1 : g.tabs.length ≤ q) (hqc : cols ≤ q) (hq2 : q ≤ cols ∨ q = g.tabs.length)
    (hgD : gD = { clampK 2 gA rows cols with top := 0, bottom := rows - 1 }) (hgA : gA = { g with rows := rows, cols := cols, at_ := { g.at_ with row := R1 }, away := { g.away with row := R }, past := past2 }) (hR : R = g.away.row - lost) :
    ResizePost w p F (g.resize rows cols) vq (.returned (.int .i64 0)) (wr.setCell ⟨p, 22, none⟩ (.slice (some ⟨xb, xo, none⟩) cols cols)) := by
  have hpl := hM.blk.lt
  have hsz1 := hb1.size
  have hsz2 := hb2.size
  have hszk := hs1.size
  have hszr := hst.size
  have bplt : ∀ b, bp = some b → b < w.heap.size := hM.past.lt.1
  have hR2k : RowsAt wk v2 (PG.G.fit L g.away.row rows cols) o2 r2 := hR2.same (fun b e => hs1.block b (hR2.lt.1 b e) (fun h => by have := ho2 b e; rcases h with h | h; omega; have := bplt b h; omega)) (fun b e => hs1.block b (hR2.lt.2 b e) (fun h => by have := hr2 b e; rcases h with h | h; omega; have := bplt b h; omega))
  have hne : o2 ≠ none := by
    obtain ⟨vals, hS, _⟩ := hR2
    exact hS.ob_ (by rw [fit_len]; omega)
  have hMA := hMk.putother (w' := wk.setCell ⟨p, 23, none⟩ v2) (g' := { g1 with past := past2, other := some (PG.G.fit L g.away.row rows cols) }) (v2 := v2) (L := PG.G.fit L g.away.row rows cols) (on_ex ⟨_, (On.refl hMk.blk).set 23 v2, by simp [gcells]⟩) rfl hR2k hne hn2
    (fun b hb => ⟨fun h => by have := hr2 b hb; have := hR1.lt.2 b h; omega, fun h => by
      have := hr2 b hb
      have := hR2.lt.2 b hb
      rcases hr3 b h with h | h
      · have := hM.past.lt.2 b h; omega
      · omega⟩)
    (fun b hb => ⟨fun h => by have := ho2 b hb; have := hR1.lt.1 b h; omega, fun h => by
      have := ho2 b hb
      have := hR2.lt.1 b hb
      rcases hs1.sub b (.inr h) with h' | h'
      · rcases h' with h' | h'
        · omega
        · have := bplt b h'; omega
      · omega⟩) rfl rfl rfl
  have hres : g.resize rows cols = { g with rows := rows, cols := cols, cells := PG.G.fit g.cells g.at_.row rows cols, other := some (PG.G.fit L g.away.row rows cols), past := past2, at_ := PG.G.clampCur { g.at_ with row := g.at_.row - lost1 } rows cols, away := PG.G.clampCur { g.away with row := g.away.row - lost } rows cols, top := 0, bottom := rows - 1, tabs := PG.G.resizeTabs g.tabs cols } := by
    unfold PG.G.resize
    simp only
    rw [ho]
    simp only
    rw [← hlost, ← hlost1, ← hpast2]
  have hIr := hI.resize h1 h2 h3 h4
  rw [hres] at hIr ⊢
  refine resized_tail (wA := wk.setCell ⟨p, 23, none⟩ v2) (gX := { g1 with past := past2, other := some (PG.G.fit L g.away.row rows cols) }) (tabs := g.tabs) hIr hMA hbt (fun b hb hn hbn => ?_) (by simpa using hszr) (fun b hb => ?_) hB hT hq1 hqc hq2 (fun a b c d e => ?_) rfl (by rw [hg1]) rfl rfl (hfoot p (.inl rfl)) (fun b hb => ?_)
    (hst.os.trans (hs1.os.trans (hb2.os.trans (hon1.2.os.trans hb1.os)))) (hst.tape.trans (hs1.tape.trans (hb2.tape.trans (hon1.2.tape.trans hb1.tape)))) (hst.output.trans (hs1.output.trans (hb2.output.trans (hon1.2.output.trans hb1.output)))) (by omega) (fun b hb hn => ?_)
  · rw [Below.heap_setCell wk _ v2 b hn]
    exact hst.block b (by simpa using hb) (fun h => by rcases h with h | h; exact hn h; exact hbn (hbt.trans h))
  · rcases hst.sub b (.inr hb) with h | h
    · rcases h with h | h
      · rw [hb, h] at hT; exact absurd rfl (hT.ne_blk hB (by decide))
      · exact .inl (hbt.trans h)
    · exact .inr (by omega)
  · rw [hgD, hgA, hR, hR1']
    simp [gcells, clampK, PG.G.clampCur]
  · rcases hb with hb | hb | hb | hb | hb | hb | hb | hb
    · exact .inl (hfoot b (.inl hb))
    · exact .inr (ho1 b hb)
    · exact .inl (hfoot b (.inr (.inr (.inl hb))))
    · exact .inr (by have := ho2 b hb; omega)
    · rcases hs1.sub b (.inr hb) with h | h
      · rcases h with h | h
        · exact .inl (hfoot b (.inl h))
        · exact .inl (hfoot b (.inr (.inr (.inr (.inr (.inl h))))))
      · exact .inr (by omega)
    · exact .inr (hr1 b hb)
    · exact .inr (by have := hr2 b hb; omega)
    · rcases hr3 b hb with h | h
      · exact .inl (hfoot b (.inr (.inr (.inr (.inr (.inr (.inr (.inr h))))))))
      · exact .inr (by omega)
  · have hn' : ¬ footG p bc bt bo bp rc ro rp b := fun h => hn (hfoot b h)
    have hnp : b ≠ p := fun e => hn' (.inl e)
    have hnt : ¬ some tb = some b := fun e => hn' (.inr (.inr (.inl (hbt.trans e))))
    have hnq : bp ≠ some b := fun e => hn' (.inr (.inr (.inr (.inr (.inl e)))))
    exact (hst.block b (by omega) (fun h => by rcases h with h | h; exact hnp h; exact hnt h)).trans ((hs1.block b (by omega) (fun h => by rcases h with h | h; exact hnp h; exact hnq h)).trans ((hb2.block b (by omega)).trans ((hon1.2.block b (by omega) (fun e => hnp (Option.some.inj e))).trans (hb1.block b hb))))

set_option maxRecDepth 20000 in
set_option maxHeartbeats 8000000 in
theorem resize_some {w : World} {p : Nat} {F : Nat → Prop} {g : PG.G} {aq : Option Addr} (h : GridAt w p F g (.pointer aq)) (rows cols : Nat) (h1 : 1 ≤ rows) (h2 : rows ≤ 60) (h3 : 1 ≤ cols) (h4 : cols ≤ 120) {L : List PG.Line} (ho : g.other = some L) :
    Calls Tryd.prog 11 #[.pointer (some ⟨p, 0, none⟩), .int .i64 rows, .int .i64 cols] w (ResizePost w p F (g.resize rows cols) (.pointer aq)) := by
  obtain ⟨hI, hF, vc, vt, vo, vp, bc, bt, bo, bp, rc, ro, rp, hM, hfoot⟩ := h
  obtain ⟨j0, hj, hy0, hy1, hy2⟩ := info_parts Tryd.infoCell
  have hb := hM.blk
  have hpl := hb.lt
  have hneq := neq_nil_lines hM.other
  rw [ho] at hneq
  have hgr1 := hI.r1
  have hgr2 := hI.r2
  have hgc1 := hI.c1
  have hgc2 := hI.c2
  have hrow := hI.row
  have hcol := hI.col
  have harow := hI.arow
  have hacol := hI.acol
  have hlc := hI.cells.1
  obtain ⟨cb, co, cc, rfl, hcc⟩ : ∃ b o c, vc = .slice (some ⟨b, o, none⟩) g.rows c ∧ g.rows ≤ c := by
    obtain ⟨bo', oo', co', _, _, _, e1, _, e2, _⟩ := hM.cells.row (List.getElem?_eq_getElem (show 0 < g.cells.length by omega))
    rw [hlc] at e1 e2
    exact ⟨bo', oo', co', e1, e2⟩
  have hOR : RowsAt w vo L bo ro := by have h8 := hM.other; unfold OtherAt at h8; rw [ho] at h8; exact h8.1
  have hlL := (hI.other L ho).1
  obtain ⟨ob, oo, oc, rfl, hoc⟩ : ∃ b o c, vo = .slice (some ⟨b, o, none⟩) g.rows c ∧ g.rows ≤ c := by
    obtain ⟨bo', oo', co', _, _, _, e1, _, e2, _⟩ := hOR.row (List.getElem?_eq_getElem (show 0 < L.length by omega))
    rw [hlL] at e1 e2
    exact ⟨bo', oo', co', e1, e2⟩
  have c2 := gc_cells hb
  have c3 := gc_row hb
  have c23 := gc_other hb
  have c24 := gc_arow hb
  obtain ⟨lost1, hlost1⟩ : ∃ lost, lost = PG.G.lost g.at_.row rows := ⟨_, rfl⟩
  have hlo1 : lost1 = g.at_.row + 1 - rows := by rw [hlost1]; rfl
  have hll1 : lost1 ≤ g.at_.row := by omega
  have hlr1 : g.at_.row < lost1 + rows := by omega
  obtain ⟨lost, hlost⟩ : ∃ lost, lost = PG.G.lost g.away.row rows := ⟨_, rfl⟩
  have hlo : lost = g.away.row + 1 - rows := by rw [hlost]; rfl
  have hll : lost ≤ g.away.row := by omega
  have hlr : g.away.row < lost + rows := by omega
  have HLO1 := Lib.hid hlost1
  have HI := Lib.hid (And.intro hI (And.intro hF (And.intro hM (And.intro hfoot (And.intro ho (And.intro hlost hlL))))))
  have HLC := Lib.hid hlc
  clear hI hF hM hfoot ho hlost hlc hb hlo hlost1 hlo1 hlL hOR
  go_enter Tryd.func11, Tryd.ntmps11
  go_wp2_with fail
  refine (size_any w rows cols true (by simp; omega)).mono ?_
  rintro e w1 ⟨rfl, rfl⟩
  go_wp2_with fail
  go_region
  go_wp2_with fail
  go_region
  go_wp2_with fail
  go_region_held3 (fun w' => w'.cell? ⟨p, 2, none⟩ = some (.slice (some ⟨cb, co, none⟩) g.rows cc) ∧ w'.cell? ⟨p, 3, none⟩ = some (.int .i64 g.at_.row)) (go_keep) (first
    | (go_at_call 21; refine (fit_any _ (.slice (some ⟨cb, co, none⟩) g.rows cc) g.cells bc rc (by exact HI.out.2.2.1.cells) (by have := HLC.out; omega) (fun l hl => by have := (HI.out.1.cells.2 l hl).1; omega) g.at_.row rows cols (by have := HLC.out; omega) h1 h2 h3 h4).mono ?_; rintro e w1 ⟨v1, o1, r1, rfl, hR1, ho1, hr1, hn1, hb1⟩; rw [← HLO1.out]; obtain ⟨a1, kk1, rfl⟩ : ∃ a c, v1 = .slice a rows c := (by obtain ⟨vals, hS, _⟩ := hR1; obtain ⟨a, c, e, _⟩ := hS.form; exact ⟨a, c, by rw [e, fit_len]⟩); have HR1 := Lib.hid (And.intro hR1 (And.intro ho1 (And.intro hr1 (And.intro hn1 hb1)))); have q2 : w1.cell? ⟨p, 2, none⟩ = some (.slice (some ⟨cb, co, none⟩) g.rows cc) := (hb1.cell (p := ⟨p, 2, none⟩) hpl).trans c2; have q3 : w1.cell? ⟨p, 3, none⟩ = some (.int .i64 g.at_.row) := (hb1.cell (p := ⟨p, 3, none⟩) hpl).trans c3; clear hR1 ho1 hr1 hn1 hb1))
  have hMw : GridMem w1 p g (.slice (some ⟨cb, co, none⟩) g.rows cc) vt (.slice (some ⟨ob, oo, none⟩) g.rows oc) vp (.pointer aq) bc bt bo bp rc ro rp := HI.out.2.2.1.same (fun b hb => HR1.out.2.2.2.2.block b (HI.out.2.2.1.lt b hb))
  have g2' := hMw.blk.frozen 2
  have g3' := hMw.blk.frozen 3
  obtain ⟨R1, hR1⟩ : ∃ R, R = g.at_.row - lost1 := ⟨_, rfl⟩
  have hsub0 : (g.at_.row : Int) - (lost1 : Int) = (R1 : Int) := by omega
  have hwr0 : IntKind.i64.wrap (R1 : Int) = (R1 : Int) := IntWalk.i64_in _ (by omega)
  have hR1b : R1 < rows := by omega
  obtain ⟨g1, hg1⟩ : ∃ g1 : PG.G, g1 = { g with cells := PG.G.fit g.cells g.at_.row rows cols, at_ := { g.at_ with row := R1 } } := ⟨_, rfl⟩
  obtain ⟨W1, hW1⟩ : ∃ W1, W1 = (w1.setCell ⟨p, 2, none⟩ (.slice a1 rows kk1)).setCell ⟨p, 3, none⟩ (.int .i64 R1) := ⟨_, rfl⟩
  have hon1 : On w1 W1 p 52 (gcells g1 (.slice a1 rows kk1) vt (.slice (some ⟨ob, oo, none⟩) g.rows oc) vp (.pointer aq)) := by
    rw [hW1, hg1]
    exact on_ex ⟨_, ((On.refl hMw.blk).set 2 _).set 3 _, by simp [gcells]⟩
  have hM1W : GridMem W1 p g1 (.slice a1 rows kk1) vt (.slice (some ⟨ob, oo, none⟩) g.rows oc) vp (.pointer aq) o1 bt bo bp r1 ro rp := by
    obtain ⟨x1, x2, x3, x4, x5⟩ := HR1.out
    have hMo := HI.out.2.2.1
    refine hMw.putcells hon1 (by rw [hg1]; exact x1) x4 (fun b hb => ⟨fun h => by have := x3 b hb; have := hMo.other.lt.2 b h; simp at *; omega, fun h => by have := x3 b hb; have := hMo.past.lt.2 b h; simp at *; omega⟩)
      (fun b hb => ⟨fun h => by have := x2 b hb; have := hMo.other.lt.1 b h; simp at *; omega, fun h => by have := x2 b hb; have := hMo.past.lt.1 b h; simp at *; omega⟩) (by rw [hg1]) (by rw [hg1]) (by rw [hg1])
  have HG1 := Lib.hid hg1
  have c23W : W1.cell? ⟨p, 23, none⟩ = some (.slice (some ⟨ob, oo, none⟩) g.rows oc) := gc_other hM1W.blk
  have c24W : W1.cell? ⟨p, 24, none⟩ = some (.int .i64 g.away.row) := by
    have h8 := gc_arow hM1W.blk
    rw [hg1] at h8
    exact h8
  have hORW : RowsAt W1 (.slice (some ⟨ob, oo, none⟩) g.rows oc) L bo ro := by
    have h8 := hM1W.other
    unfold OtherAt at h8
    rw [show g1.other = some L by rw [hg1]; exact HI.out.2.2.2.2.1] at h8
    exact h8.1
  have hWs : W1.heap.size = w1.heap.size := by rw [hW1]; simp
  have hplW : p < W1.heap.size := hM1W.blk.lt
  have HW1 := Lib.hid (And.intro hon1 (And.intro hM1W (And.intro hORW (And.intro hWs (And.intro hR1 hW1)))))
  clear hMw hg1 hon1 hM1W hORW hWs hR1
  go_wp2_with fail
  rw [← HW1.out.2.2.2.2.2]
  clear hsub0 hwr0 q2 q3 g2' g3' c2 c3 c23 c24 hW1
  go_region_held3 (fun w' => w'.cell? ⟨p, 23, none⟩ = some (.slice (some ⟨ob, oo, none⟩) g.rows oc) ∧ w'.cell? ⟨p, 24, none⟩ = some (.int .i64 g.away.row)) (go_keep) (first
    | (go_at_call 21; refine (fit_any _ (.slice (some ⟨ob, oo, none⟩) g.rows oc) L bo ro (by exact HW1.out.2.2.1) (by have := HI.out.2.2.2.2.2.2; omega) (fun l hl => by have := ((HI.out.1.other L HI.out.2.2.2.2.1).2 l hl).1; omega) g.away.row rows cols (by have := HI.out.2.2.2.2.2.2; omega) h1 h2 h3 h4).mono ?_; rintro e w2 ⟨v2, o2, r2, rfl, hR2, ho2, hr2, hn2, hb2⟩; rw [← HI.out.2.2.2.2.2.1]; obtain ⟨a2, k2, rfl⟩ : ∃ a c, v2 = .slice a rows c := (by obtain ⟨vals, hS, _⟩ := hR2; obtain ⟨a, c, e, _⟩ := hS.form; exact ⟨a, c, by rw [e, fit_len]⟩); have HR2 := Lib.hid (And.intro hR2 (And.intro ho2 (And.intro hr2 (And.intro hn2 hb2)))); have q23 : w2.cell? ⟨p, 23, none⟩ = some (.slice (some ⟨ob, oo, none⟩) g.rows oc) := (hb2.cell (p := ⟨p, 23, none⟩) hplW).trans c23W; have q24 : w2.cell? ⟨p, 24, none⟩ = some (.int .i64 g.away.row) := (hb2.cell (p := ⟨p, 24, none⟩) hplW).trans c24W; clear hR2 ho2 hr2 hn2 hb2))
  have HW2 := Lib.hid (show GridMem w2 p g1 (.slice a1 rows kk1) vt (.slice (some ⟨ob, oo, none⟩) g.rows oc) vp (.pointer aq) o1 bt bo bp r1 ro rp from HW1.out.2.1.same (fun b hb => HR2.out.2.2.2.2.block b (HW1.out.2.1.lt b hb)))
  have hg1p : g1.past = g.past := by rw [HG1.out]
  have HG1P := Lib.hid hg1p
  clear hg1p c23W c24W
  have hlc1 : (lost : Int) ≤ (oc : Int) := by omega
  have hl0 : (0 : Int) ≤ (lost : Int) := by omega
  go_wp2_with fail
  go_loopw [14, 15, 88] (fun _ _ i wr => LostRel w2 p g1 (.slice a1 rows kk1) vt (.slice (some ⟨ob, oo, none⟩) g.rows oc) (.pointer aq) o1 bt bo bp r1 ro rp (L.take lost) cols i wr) (fun _ _ i _ => lost - (intOf i).toNat)
  case atStart => exact ⟨0, vp, bp, rp, Nat.zero_le _, rfl, HW2.out, (by rw [HG1P.out]; exact HI.out.1.past), Step.refl _ _, fun b hb => .inl hb⟩
  case round =>
    obtain ⟨k, vp1, bp1, rp1, hk, rfl, hM1, hok1, hs1, hr1⟩ := hrel
    have hml : (L.take lost).length = lost := by have := HI.out.2.2.2.2.2.2; rw [List.length_take]; omega
    by_cases hlt : k < lost
    · have hli : (k : Int) < (lost : Int) := by omega
      have hk0 : (0 : Int) ≤ (k : Int) := by omega
      have hkl : k < L.length := by have := HI.out.2.2.2.2.2.2; omega
      obtain ⟨l, hle⟩ : ∃ l, l = L[k] := ⟨_, rfl⟩
      have hLk : L[k]? = some l := by rw [List.getElem?_eq_getElem hkl, hle]
      have hOk : RowsAt wr (.slice (some ⟨ob, oo, none⟩) g.rows oc) L bo ro := by
        have h8 := hM1.other
        unfold OtherAt at h8
        simp only at h8
        rw [show g1.other = some L by rw [HG1.out]; exact HI.out.2.2.2.2.1] at h8
        exact h8.1
      obtain ⟨bo', oo', co', lb, lo, lc, hv, hob, _, hcell, hrb, hlc, hlrow⟩ := hOk.row hLk
      simp only [HI.out.2.2.2.2.2.2] at hv
      cases hv
      have hl2 : ∀ c ∈ l, PG.CellOk c := ((HI.out.1.other L HI.out.2.2.2.2.1).2 l (List.mem_of_getElem? hLk)).2
      have hl1 : l.length ≤ 120 := by have := ((HI.out.1.other L HI.out.2.2.2.2.1).2 l (List.mem_of_getElem? hLk)).1; omega
      clear hOk
      have hka : PG.keepAll g1.past (((L.take lost).take (k + 1)).map (PG.G.fitLine cols)) = PG.keep1 (PG.keepAll g1.past (((L.take lost).take k).map (PG.G.fitLine cols))) (PG.G.fitLine cols l) := by
        rw [List.take_succ_eq_append_getElem (by omega), List.getElem_take, ← hle]
        simp [PG.keepAll]
      have hok2 := PG.keep1_ok (l := PG.G.fitLine cols l) hok1 ⟨by rw [fitLine_len]; omega, fitLine_ok hl2⟩
      rw [← hka] at hok2
      obtain ⟨ll, hll2⟩ : ∃ ll, ll = l.length := ⟨_, rfl⟩
      rw [← hll2] at hcell hlrow
      have HW := Lib.hid (And.intro hM1 (And.intro hok1 (And.intro hs1 (And.intro hr1 (And.intro hlrow (And.intro hka (And.intro hok2 (And.intro hll2 hl2))))))))
      have hl120 : ll ≤ 120 := by omega
      clear hM1 hok1 hs1 hr1 hlrow hka hok2 hll2 hl2 hLk hle hrb hob hlc hml hl1
      go_wp2_with fail
      refine (line_any cols wr (by omega)).mono ?_
      rintro e1 w2 ⟨u, ng, rfl, hS2, hng, hb2⟩
      rw [show (PG.line cols).length = cols by simp [PG.line]] at hS2
      obtain ⟨nb, no, nc, ncur, rfl, hnb, hB2, hnc, hnsz, _⟩ := hS2.some_ (by simp)
      obtain rfl := Option.some.inj hnb
      clear hnb
      have hcpn : (flat (l.take (min l.length cols))).length = min ll cols * 4 := by rw [length_flat, List.length_take, HW.out.2.2.2.2.2.2.2.1]; omega
      have HB2 := Lib.hid (And.intro hS2 (And.intro hB2 (And.intro hb2 (And.intro hng hnsz))))
      clear hS2 hB2 hb2 hng
      go_wp2_with (with_reducible refine wpList_copy_to _ rfl (.tmp 94) (.tmp 95) 40 40 rfl 42 j0 4 Tryd.underlying40 hj hy1 (some ⟨ng, no, none⟩) (some ⟨lb, lo, none⟩) cols nc ll lc (min ll cols) ?e1 ?e2 ?e3 ng no ncur 42 ?e4 (flat (l.take (min l.length cols))) hcpn (fun _ => rfl) ?e5 ?e6 (flat_one _) ?_)
      case e1 => rfl
      case e2 => rfl
      case e3 => rfl
      case e4 => exact HB2.out.2.1
      case e5 =>
        rw [flat_take]
        exact ((HW.out.2.2.2.2.1.below HB2.out.2.2.1 HW.out.2.2.2.2.1.lt).from_).take _
      case e6 => rw [hcpn]; have := HB2.out.2.2.2.2; omega
      intro w4 hB4 hg4 hs4
      have hS4 : SlAt w4 42 4 (.slice (some ⟨ng, no, none⟩) cols nc) cols (flat (PG.G.fitLine cols l)) (some ng) := by
        have h8 := HB2.out.1.laid (cs := flat (l.take (min l.length cols))) HB2.out.2.1 (0 * 4) (by rw [length_flat, length_flat, List.length_take]; simp [PG.line]; omega) (by simpa using hB4)
        rw [flat_over, fitLine_over] at h8
        exact h8
      have hb4 : Below wr.heap.size wr w4 := HB2.out.2.2.1.grown hg4 HB2.out.2.2.1.size (fun b e => by cases e; exact HB2.out.2.2.2.1)
      have hM4 := HW.out.1.same (fun b hb => hb4.block b (HW.out.1.lt b hb))
      have hS4' : SlAt w4 42 4 (.slice (some ⟨ng, no, none⟩) (PG.G.fitLine cols l).length nc) (PG.G.fitLine cols l).length (flat (PG.G.fitLine cols l)) (some ng) := by rw [fitLine_len]; exact hS4
      have hkc := keep_raw HW.out.2.1 hM4 _ ng nc (PG.G.fitLine cols l) hS4' ⟨by rw [fitLine_len]; omega, by rw [fitLine_len]; omega⟩
      rw [fitLine_len] at hkc
      have H4 := Lib.hid (And.intro hkc hb4)
      clear hS4 hb4 hB4 hg4 hs4 hcpn hM4 hS4' hkc
      go_wp2_with fail
      refine H4.out.1.mono ?_
      rintro e w5 ⟨vp5, bp5, rp5, rfl, hM5, hs5, hr5⟩
      have H5 := Lib.hid (And.intro hM5 (And.intro hs5 hr5))
      clear hM5 hs5 hr5
      go_wp2
      go_simp
      go_roundw
      case rel =>
        obtain ⟨hM1, hok1, hs1, hr1, hlrow, hka, hok2, hll2, hl2⟩ := HW.out
        obtain ⟨hM5, hs5, hr5⟩ := H5.out
        have hb4 := H4.out.2
        have hs4 := hb4.size
        refine ⟨k + 1, vp5, bp5, rp5, by have := HI.out.2.2.2.2.2.2; rw [List.length_take]; omega, by go_num, by rw [hka]; exact hM5, hok2, (hs1.trans (Step.of_below hb4 (fun b hb => .inl hb))).trans hs5, fun b hb => ?_⟩
        rcases hr5 b hb with h | h
        · exact hr1 b h
        · exact .inr (by have := hs1.size; omega)
      case measure => simp [intOf]; omega
    · obtain ⟨wk, rfl⟩ : ∃ wk, wk = wr := ⟨_, rfl⟩
      have hkl : k = lost := by omega
      obtain ⟨R, hR⟩ : ∃ R, R = g.away.row - lost := ⟨_, rfl⟩
      have hb := hM1.blk
      have k0 : wk.cell? ⟨p, 0, none⟩ = some (.int .i64 g.rows) := by
        have h8 := gc_rows hb
        simp only [HG1.out] at h8
        exact h8
      have k1 : wk.cell? ⟨p, 1, none⟩ = some (.int .i64 g.cols) := by
        have h8 := gc_cols hb
        simp only [HG1.out] at h8
        exact h8
      have kc : wk.cell? ⟨p, 23, none⟩ = some (.slice (some ⟨ob, oo, none⟩) g.rows oc) := gc_other hb
      have k3 : wk.cell? ⟨p, 24, none⟩ = some (.int .i64 g.away.row) := by
        have h8 := gc_arow hb
        simp only [HG1.out] at h8
        exact h8
      have f0 := hb.frozen 0
      have f1 := hb.frozen 1
      have f2 := hb.frozen 23
      have f3 := hb.frozen 24
      have hplr := hb.lt
      have hsub1 : (g.away.row : Int) - (lost : Int) = (R : Int) := by omega
      have hwr1 : IntKind.i64.wrap (R : Int) = (R : Int) := IntWalk.i64_in _ (by omega)
      have hRb : R < rows := by omega
      obtain ⟨past2, hpast2⟩ : ∃ q, q = PG.keepAll g1.past (((L.take lost).take k).map (PG.G.fitLine cols)) := ⟨_, rfl⟩
      rw [← hpast2] at hM1 hok1
      have hon : On wk ((((wk.setCell ⟨p, 23, none⟩ (.slice a2 rows k2)).setCell ⟨p, 24, none⟩ (.int .i64 R)).setCell ⟨p, 0, none⟩ (.int .i64 rows)).setCell ⟨p, 1, none⟩ (.int .i64 cols)) p 52 (gcells { g with rows := rows, cols := cols, at_ := { g.at_ with row := R1 }, away := { g.away with row := R }, past := past2 } (.slice a1 rows kk1) vt (.slice a2 rows k2) vp1 (.pointer aq)) :=
        on_ex ⟨_, ((((On.refl hM1.blk).set 23 _).set 24 _).set 0 _).set 1 _, by simp [gcells, HG1.out]⟩
      have HT := Lib.hid (And.intro hM1 (And.intro hok1 (And.intro hs1 (And.intro hr1 (And.intro hkl (And.intro hR (And.intro hpast2 (And.intro hon hk))))))))
      clear hM1 hok1 hs1 hr1 hkl hR hpast2 hb hon hk
      go_wp2_with fail
      clear hsub1 hwr1
      go_region
      go_wp2_with fail
      obtain ⟨gA, hgA⟩ : ∃ gA : PG.G, gA = { g with rows := rows, cols := cols, at_ := { g.at_ with row := R1 }, away := { g.away with row := R }, past := past2 } := ⟨_, rfl⟩
      have HGA := Lib.hid hgA
      go_loopw [17, 128] (fun _ i wx => CurRel wk p gA rows cols (.slice a1 rows kk1) vt (.slice a2 rows k2) vp1 (.pointer aq) i wx) (fun _ i _ => 2 - (intOf i).toNat)
      case atStart =>
        refine ⟨0, by omega, rfl, ?_, ?_⟩
        · rw [hgA]
          exact (HT.out.2.2.2.2.2.2.2.1.alloc _).drew
        · exact Blk.new_at (by simp)
      clear hgA
      case round =>
        obtain ⟨j, hj2, rfl, hon, hBs⟩ := hrel
        have hs0 := hBs.cell 0
        have hs1 := hBs.cell 1
        simp only [List.getElem?_toArray, List.getElem?_cons_zero, List.getElem?_cons_succ] at hs0 hs1
        have hpx := hon.1.lt
        have hxr : g.rows ≤ 60 := hgr2
        have HON := Lib.hid (And.intro hon hBs)
        clear hon hBs
        by_cases hj : j < 2
        · rcases (by omega : j = 0 ∨ j = 1) with rfl | rfl
          · obtain ⟨m1, hm1⟩ : ∃ m, m = min R1 (rows - 1) := ⟨_, rfl⟩
            obtain ⟨m2, hm2⟩ : ∃ m, m = min g.at_.col (cols - 1) := ⟨_, rfl⟩
            have hmin1 : (if (rows : Int) - 1 < (R1 : Int) then (rows : Int) - 1 else (R1 : Int)) = (m1 : Int) := by rw [hm1]; split <;> omega
            have hmin2 : (if (cols : Int) - 1 < (g.at_.col : Int) then (cols : Int) - 1 else (g.at_.col : Int)) = (m2 : Int) := by rw [hm2]; split <;> omega
            have d3 : wr.cell? ⟨p, 3, none⟩ = some (.int .i64 R1) := by
              have h8 := gc_row (g := clampK 0 gA rows cols) HON.out.1.1
              rw [HGA.out] at h8
              exact h8
            have d4 : wr.cell? ⟨p, 4, none⟩ = some (.int .i64 g.at_.col) := by
              have h8 := gc_col (g := clampK 0 gA rows cols) HON.out.1.1
              rw [HGA.out] at h8
              exact h8
            have d5 : wr.cell? ⟨p, 5, none⟩ = some (.bool g.at_.due) := by
              have h8 := gc_due (g := clampK 0 gA rows cols) HON.out.1.1
              rw [HGA.out] at h8
              exact h8
            have e3 := HON.out.1.1.frozen 3
            have e4 := HON.out.1.1.frozen 4
            have e5 := HON.out.1.1.frozen 5
            have HM := Lib.hid (And.intro hm1 hm2)
            clear hm1 hm2
            go_wp2_with fail
            go_region
            go_wp2_with fail
            go_simp
            go_roundw
            case rel =>
              refine ⟨1, by omega, by go_num, ?_, ?_⟩
              · refine ((((HON.out.1.set 3 _).set 4 _).set 5 _).drew).eq_ ?_
                rw [HGA.out]
                first
                  | (simp [gcells, clampK, PG.G.clampCur, HM.out.1, HM.out.2]; done)
                  | (simp [gcells, clampK, PG.G.clampCur, HM.out.1, HM.out.2]; omega)
              · exact (((HON.out.2.far (p := ⟨p, 3, none⟩) (by show wk.heap.size ≠ p; omega) _).far (p := ⟨p, 4, none⟩) (by show wk.heap.size ≠ p; omega) _).far (p := ⟨p, 5, none⟩) (by show wk.heap.size ≠ p; omega) _).drew
            case measure => simp [intOf]
          · obtain ⟨m1, hm1⟩ : ∃ m, m = min R (rows - 1) := ⟨_, rfl⟩
            obtain ⟨m2, hm2⟩ : ∃ m, m = min g.away.col (cols - 1) := ⟨_, rfl⟩
            have hmin1 : (if (rows : Int) - 1 < (R : Int) then (rows : Int) - 1 else (R : Int)) = (m1 : Int) := by rw [hm1]; split <;> omega
            have hmin2 : (if (cols : Int) - 1 < (g.away.col : Int) then (cols : Int) - 1 else (g.away.col : Int)) = (m2 : Int) := by rw [hm2]; split <;> omega
            have d3 : wr.cell? ⟨p, 24, none⟩ = some (.int .i64 R) := by
              have h8 := gc_arow (g := clampK 1 gA rows cols) HON.out.1.1
              rw [HGA.out] at h8
              exact h8
            have d4 : wr.cell? ⟨p, 25, none⟩ = some (.int .i64 g.away.col) := by
              have h8 := gc_acol (g := clampK 1 gA rows cols) HON.out.1.1
              rw [HGA.out] at h8
              exact h8
            have d5 : wr.cell? ⟨p, 26, none⟩ = some (.bool g.away.due) := by
              have h8 := gc_adue (g := clampK 1 gA rows cols) HON.out.1.1
              rw [HGA.out] at h8
              exact h8
            have e3 := HON.out.1.1.frozen 24
            have e4 := HON.out.1.1.frozen 25
            have e5 := HON.out.1.1.frozen 26
            have HM := Lib.hid (And.intro hm1 hm2)
            clear hm1 hm2
            go_wp2_with fail
            go_region
            go_wp2_with fail
            go_simp
            go_roundw
            case rel =>
              refine ⟨2, by omega, by go_num, ?_, ?_⟩
              · refine ((((HON.out.1.set 24 _).set 25 _).set 26 _).drew).eq_ ?_
                rw [HGA.out]
                first
                  | (simp [gcells, clampK, PG.G.clampCur, HM.out.1, HM.out.2]; done)
                  | (simp [gcells, clampK, PG.G.clampCur, HM.out.1, HM.out.2]; omega)
              · exact (((HON.out.2.far (p := ⟨p, 24, none⟩) (by show wk.heap.size ≠ p; omega) _).far (p := ⟨p, 25, none⟩) (by show wk.heap.size ≠ p; omega) _).far (p := ⟨p, 26, none⟩) (by show wk.heap.size ≠ p; omega) _).drew
            case measure => simp [intOf]
        · obtain rfl : j = 2 := by omega
          clear hs0 hs1
          obtain ⟨wz, rfl⟩ : ∃ wz, wz = wr := ⟨_, rfl⟩
          have k17 : wz.cell? ⟨p, 17, none⟩ = some (.int .i64 g.top) := by
            have h8 := gc_top (g := clampK 2 gA rows cols) HON.out.1.1
            rw [HGA.out] at h8
            exact h8
          have k18 : wz.cell? ⟨p, 18, none⟩ = some (.int .i64 g.bottom) := by
            have h8 := gc_bottom (g := clampK 2 gA rows cols) HON.out.1.1
            rw [HGA.out] at h8
            exact h8
          have f17 := HON.out.1.1.frozen 17
          have f18 := HON.out.1.1.frozen 18
          have hT := HT.out.1.tabs
          simp only [HG1.out] at hT
          have htl : g.tabs.length = g.cols := HI.out.1.tabs
          obtain ⟨tb, to, tk, tcur, hvt, hbt, hBt, htk, htsz, _⟩ := hT.some_ (hT.ob_ (by show 0 < g.tabs.length; omega))
          have hvt2 : vt = .slice (some ⟨tb, to, none⟩) g.cols tk := by rw [hvt]; show Value.slice _ g.tabs.length _ = _; rw [htl]
          have k22 : wz.cell? ⟨p, 22, none⟩ = some (.slice (some ⟨tb, to, none⟩) g.cols tk) := by
            have h8 := gc_tabs (g := clampK 2 gA rows cols) HON.out.1.1
            rw [h8, hvt2]
          have f22 := HON.out.1.1.frozen 22
          obtain ⟨gD, hgD⟩ : ∃ gD : PG.G, gD = { clampK 2 gA rows cols with top := 0, bottom := rows - 1 } := ⟨_, rfl⟩
          have hr1 : (rows : Int) - 1 = ((rows - 1 : Nat) : Int) := by omega
          have hon2 : On wk ((wz.setCell ⟨p, 17, none⟩ (.int .i64 0)).setCell ⟨p, 18, none⟩ (.int .i64 ((rows - 1 : Nat) : Int))) p 52 (gcells gD (.slice a1 rows kk1) (.slice (some ⟨tb, to, none⟩) g.cols tk) (.slice a2 rows k2) vp1 (.pointer aq)) := by
            rw [← hvt2]
            refine ((HON.out.1.set 17 _).set 18 _).eq_ ?_
            rw [hgD]
            simp [gcells]
          have htp : tb ≠ p := fun e => by subst e; exact (HT.out.1.blk.ne_ hBt (by decide)) rfl
          have hT2 : SlAt ((wz.setCell ⟨p, 17, none⟩ (.int .i64 0)).setCell ⟨p, 18, none⟩ (.int .i64 ((rows - 1 : Nat) : Int))) 4 1 (.slice (some ⟨tb, to, none⟩) g.cols tk) g.cols ((tabsExt g.tabs g.cols).map Value.bool) (some tb) := by
            have e : tabsExt g.tabs g.cols = g.tabs := by unfold tabsExt; rw [htl]; simp
            rw [e]
            rw [hvt2, hbt] at hT
            have hT' : SlAt wk 4 1 (.slice (some ⟨tb, to, none⟩) g.cols tk) g.cols (g.tabs.map Value.bool) (some tb) := by rw [← htl] at hT ⊢; exact hT
            exact hT'.same fun b e => by
              have e' := Option.some.inj e
              subst e'
              exact hon2.2.block tb hBt.lt (fun e => htp (Option.some.inj e))
          have HD := Lib.hid (And.intro hgD (And.intro hon2 (And.intro hT2 (And.intro htl (And.intro hbt (And.intro hBt htp))))))
          have hwr1 : IntKind.i64.wrap ((rows : Int) - 1) = ((rows - 1 : Nat) : Int) := by rw [IntWalk.i64_in _ (by omega)]; omega
          clear hgD hon2 hT2 htl hbt hBt htp hvt hvt2 hT hr1 htsz
          obtain ⟨i0, hi, hz0, hz1, hz2⟩ := info_parts Tryd.infoBool
          go_wp2_with fail
          clear hwr1
          go_loopw [18] (fun i wx => TabsRel wk p gD (.slice a1 rows kk1) (.slice a2 rows k2) vp1 (.pointer aq) (some tb) g.tabs cols i wx) (fun i _ => cols - (intOf i).toNat)
          case atStart =>
            obtain ⟨hgD, hon2, hT2, htl, hbt, hBt, htp⟩ := HD.out
            exact ⟨g.cols, .slice (some ⟨tb, to, none⟩) g.cols tk, some tb, by omega, .inr htl.symm, rfl, hon2.1, hT2, Step.of_on hon2 (.inl rfl)⟩
          case round =>
            obtain ⟨q, vt', bt', hq1, hq2, rfl, hB, hTt, hst⟩ := hrel
            obtain ⟨xa, xk, rfl, _⟩ := hTt.form
            have c22 : wr.cell? ⟨p, 22, none⟩ = some (.slice xa q xk) := gc_tabs hB
            have l22 := hB.frozen 22
            have hpr := hB.lt
            by_cases hqlt : q < cols
            · have hqi : (q : Int) < (cols : Int) := by omega
              have hq0 : (0 : Int) ≤ (q : Int) := by omega
              obtain ⟨bb, hbb⟩ : ∃ bb : Bool, bb = ((q : Int) % 8 == 0) := ⟨_, rfl⟩
              have hbb2 : ((q : Int) % 8 == 0) = bb := hbb.symm
              obtain ⟨vals, hvals⟩ : ∃ vals, vals = (tabsExt g.tabs q).map Value.bool := ⟨_, rfl⟩
              rw [← hvals] at hTt
              have hmax : q + 1 ≤ maxLen := by unfold maxLen; omega
              have hbd : (q + 1) * 1 ≤ 140737488355328 := by omega
              have HQ := Lib.hid (And.intro hbb (And.intro hvals (And.intro hq1 (And.intro hB (And.intro hTt hst)))))
              clear hbb hvals hB hTt hst hq1 hq2
              go_wp2_with (at_builtin; refine wpList_append_sl _ rfl (.tmp 178) (.tmp 182) 50 50 rfl 4 i0 _ 1 1 Tryd.underlying50 hi hz0 hz1 hz2 rfl (.slice xa q xk) q vals bt' rfl ?t1 (.slice (some ⟨wr.heap.size, 0, none⟩) 1 1) 1 [.bool bb] rfl ?t2 hmax hbd ?_)
              case t1 => exact HQ.out.2.2.2.2.1.alloc _
              case t2 => exact SlAt.src (ob := some wr.heap.size) (e := 4) ⟨rfl, .inr ⟨_, 0, 1, #[.bool bb], rfl, rfl, Blk.new_at (by simp), Nat.le_refl _, by simp, fun i x hx => by simpa using hx⟩⟩ Tryd.underlying50 (by intro u hu; simp at hu; subst hu; rfl)
              intro v5 o5 w5 hS5 hg5 ho5
              obtain ⟨a5, k5, rfl, _⟩ := hS5.form
              have hbtp : bt' ≠ some p := fun e => by
                have h8 := HQ.out.2.2.2.2.1
                rw [e] at h8
                exact (h8.ne_blk HQ.out.2.2.2.1 (by decide)) rfl
              have hB5 : Blk w5 p 52 (gcells gD (.slice a1 rows kk1) (.slice xa q xk) (.slice a2 rows k2) vp1 (.pointer aq)) := (HQ.out.2.2.2.1.alloc _).same (hg5.block p (by simp; omega) (fun e => hbtp e.symm))
              have m22 : w5.cell? ⟨p, 22, none⟩ = some (.slice xa q xk) := gc_tabs hB5
              have n22 := hB5.frozen 22
              have H5 := Lib.hid (And.intro hS5 (And.intro hg5 (And.intro ho5 (And.intro hB5 hbtp))))
              clear hS5 hg5 ho5 hB5 hbtp
              go_wp2
              go_simp
              go_roundw
              case rel =>
                obtain ⟨hbb, hvals, hq1, hB, hTt, hst⟩ := HQ.out
                obtain ⟨hS5, hg5, ho5, hB5, hbtp⟩ := H5.out
                have ho5p : o5 ≠ some p := fun e => by
                  rcases ho5 with h | h
                  · exact hbtp (h ▸ e)
                  · rw [h] at e; have := Option.some.inj e; omega
                refine ⟨q + 1, .slice a5 (q + 1) k5, o5, by omega, .inl (by omega), by go_num, ?_, ?_, hst.trans ⟨hg5.os, hg5.tape, hg5.output, ?_, fun b hb hn => ?_, fun b hb => ?_⟩⟩
                · refine blk_ex ⟨_, hB5.set_ 22 _, ?_⟩
                  simp [gcells]
                · rw [tabsExt_succ _ _ hq1, List.map_append, List.map_cons, List.map_nil, ← hvals]
                  rw [show decide (q % 8 = 0) = bb by rw [hbb, Bool.eq_iff_iff]; simp; omega]
                  exact hS5.far (a := ⟨p, 22, none⟩) ho5p _
                · have := hg5.size; simp at this ⊢; omega
                · exact (Below.heap_setCell w5 _ _ b (fun e => hn (.inl e))).trans ((hg5.block b (by simp; omega) (fun e => hn (.inr e.symm))).trans (Below.heap_alloc wr _ b hb))
                · rcases hb with hb | hb
                  · exact .inl (.inl hb)
                  · rcases ho5 with h | h
                    · exact .inl (.inr (h ▸ hb))
                    · rw [h] at hb; have := Option.some.inj hb; exact .inr (by omega)
              case measure => simp [intOf]; omega
            · have hqi : ¬ (q : Int) < (cols : Int) := by omega
              obtain ⟨xb, xo, xk', xcur, hxv, hxo, hBx, hqx, _⟩ := hTt.some_ (hTt.ob_ (by omega))
              cases hxv
              have hx1 : (0 : Int) ≤ (cols : Int) := by omega
              have hx2 : (cols : Int) ≤ (xk : Int) := by omega
              have HQ := Lib.hid (And.intro hq1 (And.intro hB (And.intro hTt (And.intro hst (And.intro hxo (And.intro hBx hq2))))))
              clear hq1 hq2 hB hTt hst hxo hBx
              go_wp2
              go_ret
              obtain ⟨hq1, hB, hTt, hst, hxo, hBx, hq2⟩ := HQ.out
              obtain ⟨hM1, hok1, hs1, hr1, hkl, hR, hpast2, hon, hk⟩ := HT.out
              obtain ⟨hI, hF, hM, hfoot, ho, hlost, hlc⟩ := HI.out
              obtain ⟨hR1', ho1, hr1', hn1, hb1⟩ := HR1.out
              obtain ⟨hR2, ho2, hr2, hn2, hb2⟩ := HR2.out
              obtain ⟨hon1, hM1W, hORW, hWs, hR1, hW1⟩ := HW1.out
              have hpast3 : past2 = PG.keepAll g.past ((L.take lost).map (PG.G.fitLine cols)) := by rw [hpast2, hkl, List.take_of_length_le (Nat.le_of_eq (by rw [List.length_take]; omega)), HG1P.out]
              exact resized_some hI hM hfoot ho h1 h2 h3 h4 hR1' (fun b e => ho1 b e) (fun b e => hr1' b e) ⟨hb1.os, hb1.tape, hb1.output, hb1.size, hb1.block⟩ hon1 hM1W hWs hR2 (fun b e => ho2 b e) (fun b e => hr2 b e) hn2 ⟨hb2.os, hb2.tape, hb2.output, hb2.size, hb2.block⟩ hM1 hs1 hr1 hpast3 hlost HLO1.out HG1.out hR1 HD.out.2.2.2.2.1 hst hB hTt hq1 (by omega) hq2 HD.out.1 HGA.out hR

end Go.Proofs.YtdbepelcgmnbbaaDoor
