/- A screen is made another size: what is common. -/
import Derived.Test.YtdbepelcgmnbbaaDoorResize0
import Derived.Test.YtdbepelcgmnbbaaDoorDo
import Derived.Test.YtdbepelcgmnbbaaDoorResizeInv
namespace Go.Proofs.YtdbepelcgmnbbaaDoor
open Go Go.RowKit

/-- The rows that go off at the top, one by one. -/
def LostRel (w : World) (p : Nat) (g : PG.G) (vc vt vo vq : Value) (bc bt bo bp : Option Nat) (rc ro rp : List Nat) (M : List PG.Line) (cols : Nat) (i : Value) (wr : World) : Prop :=
  ∃ (k : Nat) (vp' : Value) (bp' : Option Nat) (rp' : List Nat), k ≤ M.length ∧ i = .int .i64 k ∧ GridMem wr p { g with past := PG.keepAll g.past ((M.take k).map (PG.G.fitLine cols)) } vc vt vo vp' vq bc bt bo bp' rc ro rp' ∧
    PG.PastOk (PG.keepAll g.past ((M.take k).map (PG.G.fitLine cols))) ∧ Step (fun b => b = p ∨ bp = some b) (fun b => b = p ∨ bp' = some b) w wr ∧ (∀ b ∈ rp', b ∈ rp ∨ w.heap.size ≤ b)

theorem fit_len (L : List PG.Line) (row rows cols : Nat) : (PG.G.fit L row rows cols).length = rows := by
  unfold PG.G.fit
  simp [PG.sheet]
  omega
theorem fitLine_ok {cols : Nat} {l : PG.Line} (h : ∀ c ∈ l, PG.CellOk c) : ∀ c ∈ PG.G.fitLine cols l, PG.CellOk c := by
  intro c hc
  unfold PG.G.fitLine at hc
  rcases List.mem_append.1 hc with hc | hc
  · exact h c (List.mem_of_mem_take hc)
  · exact (PG.line_ok _).2 c hc

theorem Step.grownNew {F F1 : Nat → Prop} {w w1 W : World} {b : Nat} (h : Step F F1 w w1) (hg : w1.grownBy W (some b)) (hb : w.heap.size ≤ b) : Step F F1 w W :=
  ⟨hg.os.trans h.os, hg.tape.trans h.tape, hg.output.trans h.output, Nat.le_trans h.size hg.size, fun k hk hn => (hg.block k (Nat.lt_of_lt_of_le hk h.size) (fun e => by have := Option.some.inj e; omega)).trans (h.block k hk hn), h.sub⟩

/-- Both cursors are brought into the screen, one by one. -/
def clampK (k : Nat) (g : PG.G) (rows cols : Nat) : PG.G := { g with at_ := if 0 < k then PG.G.clampCur g.at_ rows cols else g.at_, away := if 1 < k then PG.G.clampCur g.away rows cols else g.away }
def CurRel (w : World) (p : Nat) (g : PG.G) (rows cols : Nat) (vc vt vo vp vq : Value) (i : Value) (wx : World) : Prop :=
  ∃ k : Nat, k ≤ 2 ∧ i = .int .i64 k ∧ On w wx p 52 (gcells (clampK k g rows cols) vc vt vo vp vq) ∧ Blk wx w.heap.size 62 #[.pointer (some ⟨p, 3, none⟩), .pointer (some ⟨p, 24, none⟩)]

def tabsExt (tabs : List Bool) (k : Nat) : List Bool := tabs ++ (List.range (k - tabs.length)).map fun i => decide ((tabs.length + i) % 8 = 0)
theorem tabsExt_len (tabs : List Bool) (k : Nat) (h : tabs.length ≤ k) : (tabsExt tabs k).length = k := by simp [tabsExt]; omega
theorem tabsExt_succ (tabs : List Bool) (k : Nat) (h : tabs.length ≤ k) : tabsExt tabs (k + 1) = tabsExt tabs k ++ [decide (k % 8 = 0)] := by
  unfold tabsExt
  rw [show k + 1 - tabs.length = (k - tabs.length) + 1 by omega, List.range_succ, List.map_append, List.append_assoc]
  simp [show tabs.length + (k - tabs.length) = k by omega]
def TabsRel (w : World) (p : Nat) (g : PG.G) (vc vo vp vq : Value) (bt : Option Nat) (tabs : List Bool) (cols : Nat) (i : Value) (wx : World) : Prop :=
  ∃ (k : Nat) (vt' : Value) (bt' : Option Nat), tabs.length ≤ k ∧ (k ≤ cols ∨ k = tabs.length) ∧ i = .int .i64 k ∧ Blk wx p 52 (gcells g vc vt' vo vp vq) ∧ SlAt wx 4 1 vt' k ((tabsExt tabs k).map Value.bool) bt' ∧
    Step (fun b => b = p ∨ bt = some b) (fun b => b = p ∨ bt' = some b) w wx

/-- What Resize leaves. -/
def ResizePost (w : World) (p : Nat) (F : Nat → Prop) (g : PG.G) (vq : Value) (e : Ending) (w' : World) : Prop := ∃ F', e = .returned (.int .i64 0) ∧ GridAt w' p F' g vq ∧ Step F F' w w'

theorem tabsExt_resize (tabs : List Bool) (q cols : Nat) (h1 : tabs.length ≤ q) (h2 : cols ≤ q) (h3 : q ≤ cols ∨ q = tabs.length) : (tabsExt tabs q).take cols = PG.G.resizeTabs tabs cols := by
  have e : PG.G.resizeTabs tabs cols = (tabsExt tabs cols).take cols := rfl
  rw [e]
  rcases h3 with h | h
  · rw [show q = cols by omega]
  · have e1 : tabsExt tabs q = tabs := by unfold tabsExt; rw [h]; simp
    have e2 : tabsExt tabs cols = tabs := by unfold tabsExt; rw [show cols - tabs.length = 0 by omega]; simp
    rw [e1, e2]

theorem SlAt.cut {w : World} {t : TypeId} {size b o n cap k : Nat} {xs : List Value} {ob : Option Nat} (h : SlAt w t size (.slice (some ⟨b, o, none⟩) n cap) n xs ob) (hk : k ≤ n) : SlAt w t size (.slice (some ⟨b, o, none⟩) k k) k (xs.take (k * size)) ob := by
  have h1 := h.to hk
  obtain ⟨hl, h2⟩ := h1
  refine ⟨hl, ?_⟩
  rcases h2 with ⟨h2, _⟩ | ⟨b', o', cap', cur, hv, hb, hB, hc, hs, hx⟩
  · cases h2
  · cases hv
    have : k * size ≤ cap * size := Nat.mul_le_mul_right _ hc
    exact .inr ⟨b, o, k, cur, rfl, hb, hB, Nat.le_refl _, by omega, hx⟩

theorem resized_tail {w wA wr : World} {p q cols xb xo xk tb : Nat} {F : Nat → Prop} {gX gD g' : PG.G} {tabs : List Bool} {vc vt vo vp vq : Value} {bc bt bt' bo bp : Option Nat} {rc ro rp : List Nat} (hI' : g'.Inv) (hM : GridMem wA p gX vc vt vo vp vq bc bt bo bp rc ro rp) (hbt : bt = some tb)
    (hkeep : ∀ b, b < wA.heap.size → b ≠ p → bt ≠ some b → wr.heap[b]? = wA.heap[b]?) (hsz : wA.heap.size ≤ wr.heap.size) (hbn : ∀ b, bt' = some b → bt = some b ∨ w.heap.size ≤ b)
    (hB : Blk wr p 52 (gcells gD vc (.slice (some ⟨xb, xo, none⟩) q xk) vo vp vq)) (hT : SlAt wr 4 1 (.slice (some ⟨xb, xo, none⟩) q xk) q ((tabsExt tabs q).map Value.bool) bt') (hq1 : tabs.length ≤ q) (hqc : cols ≤ q) (hq2 : q ≤ cols ∨ q = tabs.length)
    (hg : ∀ a b c d e, gcells gD a b c d e = gcells g' a b c d e) (htabs : g'.tabs = PG.G.resizeTabs tabs cols) (e1 : g'.cells = gX.cells) (e3 : g'.other = gX.other) (e4 : g'.past = gX.past) (hp : F p)
    (hsub : ∀ b, footG p bc bt bo bp rc ro rp b → F b ∨ w.heap.size ≤ b) (h1 : wr.os = w.os) (h2 : wr.tape = w.tape) (h3 : wr.output = w.output) (h4 : w.heap.size ≤ wr.heap.size) (h5 : ∀ b, b < w.heap.size → ¬ F b → wr.heap[b]? = w.heap[b]?) :
    ResizePost w p F g' vq (.returned (.int .i64 0)) (wr.setCell ⟨p, 22, none⟩ (.slice (some ⟨xb, xo, none⟩) cols cols)) := by
  have hbp : bt' ≠ some p := fun e => by rw [e] at hT; exact (hT.ne_blk hB (by decide)) rfl
  have hT2 : SlAt (wr.setCell ⟨p, 22, none⟩ (.slice (some ⟨xb, xo, none⟩) cols cols)) 4 1 (.slice (some ⟨xb, xo, none⟩) cols cols) g'.tabs.length (g'.tabs.map Value.bool) bt' := by
    have h8 := (hT.cut hqc).far (a := ⟨p, 22, none⟩) hbp (.slice (some ⟨xb, xo, none⟩) cols cols)
    rw [Nat.mul_one, ← List.map_take, tabsExt_resize tabs q cols hq1 hqc hq2, ← htabs] at h8
    have hl : g'.tabs.length = cols := by rw [htabs]; exact PG.resizeTabs_len tabs cols
    rw [hl]
    exact h8
  have hM2 := hM.newtabs (g' := g') (w' := wr.setCell ⟨p, 22, none⟩ (.slice (some ⟨xb, xo, none⟩) cols cols)) (vt' := .slice (some ⟨xb, xo, none⟩) cols cols) (bt' := bt')
    (by refine blk_ex ⟨_, hB.set_ 22 _, ?_⟩; rw [hg]; simp [gcells]) (fun b hb hn hbn => (Below.heap_setCell wr _ _ b hn).trans (hkeep b hb hn hbn)) hT2 e1 e3 e4
  refine ⟨footG p bc bt' bo bp rc ro rp, rfl, ⟨hI', hM2.lt, _, _, _, _, _, _, _, _, _, _, _, hM2, fun _ h => h⟩, ⟨h1, h2, h3, by simpa using h4, fun b hb hn => (Below.heap_setCell wr _ _ b (fun e => hn (by have e' : b = p := e; rw [e']; exact hp))).trans (h5 b hb hn), fun b hb => ?_⟩⟩
  rcases hb with hb | hb | hb | hb | hb | hb | hb | hb
  · exact hsub b (.inl hb)
  · exact hsub b (.inr (.inl hb))
  · rcases hbn b hb with h | h
    · exact hsub b (.inr (.inr (.inl h)))
    · exact .inr h
  · exact hsub b (.inr (.inr (.inr (.inl hb))))
  · exact hsub b (.inr (.inr (.inr (.inr (.inl hb)))))
  · exact hsub b (.inr (.inr (.inr (.inr (.inr (.inl hb))))))
  · exact hsub b (.inr (.inr (.inr (.inr (.inr (.inr (.inl hb)))))))
  · exact hsub b (.inr (.inr (.inr (.inr (.inr (.inr (.inr hb)))))))

theorem resized_none {w w1 wk wr : World} {p q rows cols lost R xb xo xk tb : Nat} {F : Nat → Prop} {g gA gD : PG.G} {past2 : List PG.Line} {vc vt vo vp vp1 vq v2 : Value} {bc bt bt' bo bp bp1 o2 : Option Nat} {rc ro rp rp1 r2 : List Nat}
    (hI : g.Inv) (hM : GridMem w p g vc vt vo vp vq bc bt bo bp rc ro rp) (hfoot : ∀ b, footG p bc bt bo bp rc ro rp b → F b) (ho : g.other = none) (h1 : 1 ≤ rows) (h2 : rows ≤ 60) (h3 : 1 ≤ cols) (h4 : cols ≤ 120)
    (hR2 : RowsAt w1 v2 (PG.G.fit g.cells g.at_.row rows cols) o2 r2) (ho2 : ∀ b, o2 = some b → w.heap.size ≤ b) (hr2 : ∀ b ∈ r2, w.heap.size ≤ b) (hn2 : r2.Nodup) (hb1 : Below w.heap.size w w1)
    (hMk : GridMem wk p { g with past := past2 } vc vt vo vp1 vq bc bt bo bp1 rc ro rp1) (hs1 : Step (fun b => b = p ∨ bp = some b) (fun b => b = p ∨ bp1 = some b) w1 wk) (hr1 : ∀ b ∈ rp1, b ∈ rp ∨ w1.heap.size ≤ b)
    (hpast2 : past2 = PG.keepAll g.past ((g.cells.take lost).map (PG.G.fitLine cols))) (hlost : lost = PG.G.lost g.at_.row rows) (hbt : bt = some tb)
    (hst : Step (fun b => b = p ∨ some tb = some b) (fun b => b = p ∨ bt' = some b) wk wr) (hB : Blk wr p 52 (gcells gD v2 (.slice (some ⟨xb, xo, none⟩) q xk) vo vp1 vq)) (hT : SlAt wr 4 1 (.slice (some ⟨xb, xo, none⟩) q xk) q ((tabsExt g.tabs q).map Value.bool) bt')
    (hq1 : g.tabs.length ≤ q) (hqc : cols ≤ q) (hq2 : q ≤ cols ∨ q = g.tabs.length)
    (hgD : gD = { clampK 2 gA rows cols with top := 0, bottom := rows - 1 }) (hgA : gA = { g with rows := rows, cols := cols, at_ := { g.at_ with row := R }, past := past2 }) (hR : R = g.at_.row - lost) :
    ResizePost w p F (g.resize rows cols) vq (.returned (.int .i64 0)) (wr.setCell ⟨p, 22, none⟩ (.slice (some ⟨xb, xo, none⟩) cols cols)) := by
  have hpl := hM.blk.lt
  have hsz1 := hb1.size
  have hszk := hs1.size
  have hszr := hst.size
  have bplt : ∀ b, bp = some b → b < w.heap.size := hM.past.lt.1
  have hR2k : RowsAt wk v2 (PG.G.fit g.cells g.at_.row rows cols) o2 r2 := hR2.same (fun b e => hs1.block b (hR2.lt.1 b e) (fun h => by have := ho2 b e; rcases h with h | h; omega; have := bplt b h; omega)) (fun b e => hs1.block b (hR2.lt.2 b e) (fun h => by have := hr2 b e; rcases h with h | h; omega; have := bplt b h; omega))
  have hMA := hMk.putcells (w' := wk.setCell ⟨p, 2, none⟩ v2) (g' := { g with past := past2, cells := PG.G.fit g.cells g.at_.row rows cols }) (v2 := v2) (on_ex ⟨_, (On.refl hMk.blk).set 2 v2, by simp [gcells]⟩) hR2k hn2
    (fun b hb => ⟨fun h => by have := hr2 b hb; have := hM.other.lt.2 b h; omega, fun h => by
      have := hr2 b hb
      have := hR2.lt.2 b hb
      rcases hr1 b h with h | h
      · have := hM.past.lt.2 b h; omega
      · omega⟩)
    (fun b hb => ⟨fun h => by have := ho2 b hb; have := hM.other.lt.1 b h; omega, fun h => by
      have := ho2 b hb
      have := hR2.lt.1 b hb
      rcases hs1.sub b (.inr h) with h' | h'
      · rcases h' with h' | h'
        · omega
        · have := bplt b h'; omega
      · omega⟩) rfl rfl rfl
  have hres : g.resize rows cols = { g with rows := rows, cols := cols, cells := PG.G.fit g.cells g.at_.row rows cols, past := past2, at_ := PG.G.clampCur { g.at_ with row := g.at_.row - lost } rows cols, away := PG.G.clampCur g.away rows cols, top := 0, bottom := rows - 1, tabs := PG.G.resizeTabs g.tabs cols } := by
    unfold PG.G.resize
    simp only
    rw [ho]
    simp only
    rw [← hlost, ← hpast2]
  have hIr := hI.resize h1 h2 h3 h4
  rw [hres] at hIr ⊢
  have hF : ∀ b, ¬ F b → ¬ footG p bc bt bo bp rc ro rp b := fun b hn h => hn (hfoot b h)
  refine resized_tail (wA := wk.setCell ⟨p, 2, none⟩ v2) (gX := { g with past := past2, cells := PG.G.fit g.cells g.at_.row rows cols }) (tabs := g.tabs) hIr hMA hbt (fun b hb hn hbn => ?_) (by simpa using hszr) (fun b hb => ?_) hB hT hq1 hqc hq2 (fun a b c d e => ?_) rfl rfl rfl rfl (hfoot p (.inl rfl)) (fun b hb => ?_)
    (hst.os.trans (hs1.os.trans hb1.os)) (hst.tape.trans (hs1.tape.trans hb1.tape)) (hst.output.trans (hs1.output.trans hb1.output)) (by omega) (fun b hb hn => ?_)
  · rw [Below.heap_setCell wk _ v2 b hn]
    exact hst.block b (by simpa using hb) (fun h => by rcases h with h | h; exact hn h; exact hbn (hbt.trans h))
  · rcases hst.sub b (.inr hb) with h | h
    · rcases h with h | h
      · rw [hb, h] at hT; exact absurd rfl (hT.ne_blk hB (by decide))
      · exact .inl (hbt.trans h)
    · exact .inr (by omega)
  · rw [hgD, hgA, hR]
    simp [gcells, clampK, PG.G.clampCur]
  · rcases hb with hb | hb | hb | hb | hb | hb | hb | hb
    · exact .inl (hfoot b (.inl hb))
    · exact .inr (ho2 b hb)
    · exact .inl (hfoot b (.inr (.inr (.inl hb))))
    · exact .inl (hfoot b (.inr (.inr (.inr (.inl hb)))))
    · rcases hs1.sub b (.inr hb) with h | h
      · rcases h with h | h
        · exact .inl (hfoot b (.inl h))
        · exact .inl (hfoot b (.inr (.inr (.inr (.inr (.inl h))))))
      · exact .inr (by omega)
    · exact .inr (hr2 b hb)
    · exact .inl (hfoot b (.inr (.inr (.inr (.inr (.inr (.inr (.inl hb))))))))
    · rcases hr1 b hb with h | h
      · exact .inl (hfoot b (.inr (.inr (.inr (.inr (.inr (.inr (.inr h))))))))
      · exact .inr (by omega)
  · have hn' := hF b hn
    have hnp : b ≠ p := fun e => hn' (.inl e)
    have hnt : ¬ some tb = some b := fun e => hn' (.inr (.inr (.inl (hbt.trans e))))
    have hnq : bp ≠ some b := fun e => hn' (.inr (.inr (.inr (.inr (.inl e)))))
    exact (hst.block b (by omega) (fun h => by rcases h with h | h; exact hnp h; exact hnt h)).trans ((hs1.block b (by omega) (fun h => by rcases h with h | h; exact hnp h; exact hnq h)).trans (hb1.block b hb))

end Go.Proofs.YtdbepelcgmnbbaaDoor
