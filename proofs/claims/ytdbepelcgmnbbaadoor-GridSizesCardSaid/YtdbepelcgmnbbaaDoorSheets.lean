/- Slices of rows of cells; what line, sheet, Clone and copied give. -/
import Derived.Test.YtdbepelcgmnbbaaDoorLines
import Derived.Lib.SliceRun
namespace Go.Proofs.YtdbepelcgmnbbaaDoor
open Go Go.RowKit

/-- A new row of cells is handed back. -/
def NewRow (w : World) (l : PG.Line) (e : Ending) (w' : World) : Prop :=
  ∃ v g, e = .returned v ∧ SlAt w' 42 4 v l.length (flat l) (some g) ∧ w.heap.size ≤ g ∧ Below w.heap.size w w'

/-- The slice of slices v reads as the lines L: its own block ob, the rows' blocks rb. -/
def RowsAt (w : World) (v : Value) (L : List PG.Line) (ob : Option Nat) (rb : List Nat) : Prop :=
  ∃ vals : List Value, SlAt w 40 1 v L.length vals ob ∧ rb.length = L.length ∧
    ∀ (i : Nat) (l : PG.Line), L[i]? = some l → ∃ u b, vals[i]? = some u ∧ rb[i]? = some b ∧ SlAt w 42 4 u l.length (flat l) (some b)

theorem SlAt.ne_ {w : World} {t t' size size' n n' : Nat} {v v' : Value} {xs xs' : List Value} {b b' : Nat} (h : SlAt w t size v n xs (some b)) (h' : SlAt w t' size' v' n' xs' (some b')) (hne : t ≠ t') : b ≠ b' := by
  obtain ⟨_, _, _, _, _, hb, hB, _⟩ := h.some_ (by simp)
  obtain ⟨_, _, _, _, _, hb', hB', _⟩ := h'.some_ (by simp)
  cases hb; cases hb'
  exact hB.ne_ hB' hne

theorem SlAt.ne_blk {w : World} {t t' size n : Nat} {v : Value} {xs : List Value} {b b' : Nat} {cs : Array Value} (h : SlAt w t size v n xs (some b)) (h' : Blk w b' t' cs) (hne : t ≠ t') : b ≠ b' := by
  obtain ⟨_, _, _, _, _, hb, hB, _⟩ := h.some_ (by simp)
  cases hb
  exact hB.ne_ h' hne

theorem SlAt.det {w : World} {t size n : Nat} {v : Value} {xs ys : List Value} {ob : Option Nat} (h : SlAt w t size v n xs ob) (h' : SlAt w t size v n ys ob) : xs = ys := by
  have e1 := h.len
  have e2 := h'.len
  rcases h.2 with ⟨rfl, h0, rfl⟩ | ⟨b1, o1, c1, cur1, rfl, rfl, hB1, hc1, hs1, hx1⟩
  · rw [List.eq_nil_of_length_eq_zero (by rw [e1, h0, Nat.zero_mul] : xs.length = 0), List.eq_nil_of_length_eq_zero (by rw [e2, h0, Nat.zero_mul] : ys.length = 0)]
  · apply List.ext_getElem?
    intro i
    by_cases hi : i < n * size
    · have h1 := h.cells i (xs[i]'(by omega)) (List.getElem?_eq_getElem (by omega))
      have h2 := h'.cells i (ys[i]'(by omega)) (List.getElem?_eq_getElem (by omega))
      rw [h1] at h2
      rw [List.getElem?_eq_getElem (by omega), List.getElem?_eq_getElem (by omega)]
      exact h2
    · rw [List.getElem?_eq_none (by omega), List.getElem?_eq_none (by omega)]

section
variable {w w' : World} {v : Value} {L : List PG.Line} {ob : Option Nat} {rb : List Nat}
theorem RowsAt.nil (w : World) : RowsAt w (.slice none 0 0) [] none [] := ⟨[], SlAt.nil w _ _, rfl, fun i l h => by simp at h⟩
theorem RowsAt.lt (h : RowsAt w v L ob rb) : (∀ b, ob = some b → b < w.heap.size) ∧ ∀ b ∈ rb, b < w.heap.size := by
  obtain ⟨vals, hS, hl, hr⟩ := h
  refine ⟨hS.lt, fun b hb => ?_⟩
  obtain ⟨i, hi, rfl⟩ := List.mem_iff_getElem.1 hb
  obtain ⟨u, b', h1, h2, h3⟩ := hr i L[i] (List.getElem?_eq_getElem (by omega))
  rw [List.getElem?_eq_getElem hi] at h2
  cases h2
  exact h3.lt _ rfl
theorem RowsAt.same (h : RowsAt w v L ob rb) (ho : ∀ b, ob = some b → w'.heap[b]? = w.heap[b]?) (hr : ∀ b ∈ rb, w'.heap[b]? = w.heap[b]?) : RowsAt w' v L ob rb := by
  obtain ⟨vals, hS, hl, hrows⟩ := h
  refine ⟨vals, hS.same ho, hl, fun i l hi => ?_⟩
  obtain ⟨u, b, h1, h2, h3⟩ := hrows i l hi
  exact ⟨u, b, h1, h2, h3.same fun b' e => by cases e; exact hr b (List.mem_of_getElem? h2)⟩
theorem RowsAt.below {B : Nat} (h : RowsAt w v L ob rb) (hb : Below B w w') (ho : ∀ b, ob = some b → b < B) (hr : ∀ b ∈ rb, b < B) : RowsAt w' v L ob rb :=
  h.same (fun b e => hb.block b (ho b e)) (fun b e => hb.block b (hr b e))
/-- One row more. -/
theorem RowsAt.snoc {w'' : World} {v' u : Value} {ob' : Option Nat} {b : Nat} {l : PG.Line} {vals : List Value} (h : RowsAt w v L ob rb) (hS : SlAt w 40 1 v L.length vals ob)
    (hS' : SlAt w'' 40 1 v' (L.length + 1) (vals ++ [u]) ob') (hg : w.grownBy w'' ob) (hr : SlAt w 42 4 u l.length (flat l) (some b)) : RowsAt w'' v' (L ++ [l]) ob' (rb ++ [b]) := by
  obtain ⟨vals', hS0, hl, hrows⟩ := h
  have hv : vals' = vals := hS0.det hS
  subst hv
  have hkeep : ∀ {u' : Value} {n' : Nat} {xs' : List Value} {b' : Nat}, SlAt w 42 4 u' n' xs' (some b') → SlAt w'' 42 4 u' n' xs' (some b') := by
    intro u' n' xs' b' hx
    refine hx.same fun b1 e => ?_
    cases e
    refine hg.block b' (hx.lt _ rfl) ?_
    intro e
    rw [← e] at hS0
    exact (hx.ne_ hS0 (by decide)) rfl
  refine ⟨_, by simpa using hS', by simp [hl], fun i l' hi => ?_⟩
  by_cases h1 : i < L.length
  · rw [List.getElem?_append_left h1] at hi
    obtain ⟨u', b', e1, e2, e3⟩ := hrows i l' hi
    refine ⟨u', b', ?_, ?_, hkeep e3⟩
    · rw [List.getElem?_append_left (by rw [hS0.len]; omega)]; exact e1
    · rw [List.getElem?_append_left (by omega)]; exact e2
  · have h2 : i = L.length := by
      have := (List.getElem?_eq_some_iff.1 hi).1
      simp at this; omega
    subst h2
    rw [List.getElem?_append_right (Nat.le_refl _)] at hi
    simp at hi
    subst hi
    refine ⟨u, b, ?_, ?_, hkeep hr⟩
    · rw [List.getElem?_append_right (by rw [hS0.len]; omega)]; simp [hS0.len]
    · rw [List.getElem?_append_right (by omega)]; simp [hl]
theorem RowsAt.vals_one (h : RowsAt w v L ob rb) : ∃ vals, SlAt w 40 1 v L.length vals ob ∧ (∀ u ∈ vals, u.oneCell' = true) ∧ rb.length = L.length ∧ ∀ (i : Nat) (l : PG.Line), L[i]? = some l → ∃ u b, vals[i]? = some u ∧ rb[i]? = some b ∧ SlAt w 42 4 u l.length (flat l) (some b) := by
  obtain ⟨vals, hS, hl, hr⟩ := h
  refine ⟨vals, hS, fun u hu => ?_, hl, hr⟩
  obtain ⟨i, hi, rfl⟩ := List.mem_iff_getElem.1 hu
  have hi' : i < L.length := by have := hS.len; omega
  obtain ⟨u', b', h1, _, h3⟩ := hr i L[i] (List.getElem?_eq_getElem hi')
  rw [List.getElem?_eq_getElem hi] at h1
  cases h1
  obtain ⟨a, cap, e, _⟩ := h3.form
  rw [e]; rfl
end

/-- New rows of cells are handed back. -/
def NewRows (w : World) (L : List PG.Line) (e : Ending) (w' : World) : Prop :=
  ∃ v ob rb, e = .returned v ∧ RowsAt w' v L ob rb ∧ (∀ b, ob = some b → w.heap.size ≤ b) ∧ (∀ b ∈ rb, w.heap.size ≤ b) ∧ rb.Nodup ∧ Below w.heap.size w w'

set_option maxRecDepth 20000 in
set_option maxHeartbeats 400000 in
theorem line_any (n : Nat) (w : World) (hn : n ≤ 1000) : Calls Tryd.prog 22 #[.int .i64 n] w (NewRow w (PG.line n)) := by
  go_enter Tryd.func22, Tryd.ntmps22
  go_wp2_with fail
  refine (blank_any _).mono ?_
  rintro e w1 ⟨rfl, hb1, hs1⟩
  have HS1 := Lib.hid hs1
  clear hs1
  go_wp2_with fail
  refine (repeat_any w1.heap.size n _ (Blk.new w1 42 _) hn).mono ?_
  rintro e w2 ⟨v, g, rfl, hS, hg, hb2⟩
  go_wp2
  go_ret
  refine ⟨v, g, rfl, by simpa [PG.line] using hS, ?_, ?_⟩
  · have := HS1.out; simp at hg; omega
  · have := HS1.out; exact (hb1.alloc (by omega) _).trans (hb2.mono (by simp; omega))

def SheetRel (rows cols B : Nat) (w : World) (v i : Value) (wr : World) : Prop :=
  ∃ (k : Nat) (ob : Option Nat) (rb : List Nat), k ≤ rows ∧ i = .int .i64 k ∧ RowsAt wr v (List.replicate k (PG.line cols)) ob rb ∧ (∀ b, ob = some b → B ≤ b) ∧ (∀ b ∈ rb, B ≤ b) ∧ rb.Nodup ∧ Below B w wr

set_option maxRecDepth 20000 in
set_option maxHeartbeats 1000000 in
theorem sheet_any (rows cols : Nat) (w : World) (hr : rows ≤ 1000) (hc : cols ≤ 1000) : Calls Tryd.prog 26 #[.int .i64 rows, .int .i64 cols] w (NewRows w (PG.sheet rows cols)) := by
  obtain ⟨i0, hi, hz0, hz1, hz2⟩ := info_parts Tryd.infoLine
  go_enter Tryd.func26, Tryd.ntmps26
  go_wp2_with fail
  go_loopw [5, 7] (SheetRel rows cols w.heap.size w) (fun _ i _ => rows - (intOf i).toNat)
  case atStart => exact ⟨0, none, [], Nat.zero_le _, rfl, RowsAt.nil w, fun _ h => (by cases h), fun _ h => (by cases h), List.nodup_nil, Below.refl _ _⟩
  case round =>
    obtain ⟨k, ob, rb, hk, rfl, hR, hob, hrb, hnd, hb⟩ := hrel
    by_cases hlt : k < rows
    · go_wp2_with fail
      refine (line_any cols wr hc).mono ?_
      rintro e w1 ⟨u, g, rfl, hS, hg, hb1⟩
      have hR1 : RowsAt w1 _ _ ob rb := hR.below hb1 hR.lt.1 hR.lt.2
      obtain ⟨vals, hV, _⟩ := hR1.vals_one
      obtain ⟨a, cap, rfl, _⟩ := hS.form
      have h1c : (Value.slice a (PG.line cols).length cap).oneCell' = true := rfl
      have hRlt := hR.lt.2
      have HR := Lib.hid hR1
      have hVa := hV.alloc (.cells #[.slice a (PG.line cols).length cap] 40)
      have hsrc : Src Tryd.prog 1 35 (.slice (some ⟨w1.heap.size, 0, none⟩) 1 1) 1 [.slice a (PG.line cols).length cap] (w1.alloc (.cells #[.slice a (PG.line cols).length cap] 40)) :=
        Src.ofSlice _ Tryd.underlying35 _ 1 1 [.slice a (PG.line cols).length cap] rfl (cell_one_new _ _ _) (by intro x hx; simp at hx; subst hx; exact h1c)
      rw [List.length_replicate] at hVa
      have hbound : (k + 1) * 24 ≤ 140737488355328 := by omega
      have hmax : k + 1 ≤ maxLen := by unfold maxLen; omega
      clear hR hR1 h1c
      go_wp2_with (at_builtin; refine wpList_append_sl _ rfl (.tmp 9) (.tmp 12) 35 35 rfl 40 i0 _ 1 24 Tryd.underlying35 hi hz0 hz1 hz2 rfl u5 k vals ob rfl hVa (.slice (some ⟨w1.heap.size, 0, none⟩) 1 1) 1 [.slice a (PG.line cols).length cap] rfl hsrc hmax hbound ?_)
      intro v' ob' w2 hS2 hg2 hob2
      have hRa : RowsAt (w1.alloc (.cells #[.slice a (PG.line cols).length cap] 40)) _ _ ob rb := HR.out.same (fun b e => Below.heap_alloc _ _ _ (HR.out.lt.1 b e)) (fun b e => Below.heap_alloc _ _ _ (HR.out.lt.2 b e))
      have hSl : SlAt (w1.alloc (.cells #[.slice a (PG.line cols).length cap] 40)) 42 4 (.slice a (PG.line cols).length cap) (PG.line cols).length (flat (PG.line cols)) (some g) := hS.alloc _
      have hR2 : RowsAt w2 v' (List.replicate k (PG.line cols) ++ [PG.line cols]) ob' (rb ++ [g]) := hRa.snoc (by simpa using hVa) (by simpa using hS2) hg2 hSl
      have hbs := hb.size
      have hbs1 := hb1.size
      have hob' : ∀ b, ob' = some b → w.heap.size ≤ b := by
        intro b e
        rcases hob2 with h | h
        · exact hob b (by rw [← h]; exact e)
        · rw [h] at e; cases e; first | omega | (simp; omega)
      have hb2 : Below w.heap.size w w2 := ((hb.trans (hb1.mono hbs)).alloc (Nat.le_trans hbs hbs1) _).grown hg2 (by simp; omega) hob
      have hnd2 : (rb ++ [g]).Nodup := by
        rw [List.nodup_append]
        refine ⟨hnd, by simp, fun a ha b hb' => ?_⟩
        simp at hb'
        subst hb'
        have h1 := HR.out.lt.2 a ha
        rintro rfl
        have h2 := HR.out
        obtain ⟨vals', _, hl', hr'⟩ := h2
        exact absurd hg (by have := hRlt a ha; omega)
      have hrb2 : ∀ b ∈ rb ++ [g], w.heap.size ≤ b := fun b hb' => by
        rcases List.mem_append.1 hb' with h | h
        · exact hrb b h
        · simp at h; subst h; omega
      go_wp2
      go_simp
      go_roundw
      case rel => exact ⟨k + 1, ob', rb ++ [g], by omega, by go_num, by rw [List.replicate_succ']; exact hR2, hob', hrb2, hnd2, hb2⟩
      case measure => simp [intOf]; omega
    · have hkn : k = rows := by omega
      subst hkn
      go_wp2
      go_ret
      exact ⟨_, ob, rb, rfl, hR, hob, hrb, hnd, hb⟩

end Go.Proofs.YtdbepelcgmnbbaaDoor
