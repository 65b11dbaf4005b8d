/- What slices.Clone of a row, of a slice of rows, and copied give. -/
import Derived.Test.YtdbepelcgmnbbaaDoorSheets
namespace Go.Proofs.YtdbepelcgmnbbaaDoor
open Go Go.RowKit

set_option maxRecDepth 20000 in
set_option maxHeartbeats 400000 in
theorem cloneC_any (A : Option Addr) (b cap n : Nat) (xs : List Value) (w : World) (h : SlAt w 42 4 (.slice A n cap) n xs (some b)) (h1 : ∀ u ∈ xs, u.oneCell' = true) (hn : n ≤ 1000) :
    Calls Tryd.prog 37 #[.slice A n cap] w (fun e w' => ∃ v' ob', e = .returned v' ∧ SlAt w' 42 4 v' n xs ob' ∧ (∀ b, ob' = some b → w.heap.size ≤ b) ∧ ob' ≠ none ∧ Below w.heap.size w w') := by
  obtain ⟨i0, hi, hz0, hz1, hz2⟩ := info_parts Tryd.infoCell
  obtain ⟨b1, o, cap1, cur, hv, hb0, _⟩ := h.some_ (by simp)
  cases hv
  cases hb0
  have hne : ∀ W, (binOp .eql 40 (.slice (some ⟨b, o, none⟩) n cap) (.slice none 0 0)).run Tryd.prog W = .ok (.bool false) W := fun W => by
    simpa using Lib.run_eql_slice_nil (P := Tryd.prog) W 40 42 (some ⟨b, o, none⟩) n cap 0 0 Tryd.underlying40
  have hV : SlAt (w.alloc (.cells #[] 42)) 42 4 (.slice (some ⟨w.heap.size, 0, none⟩) 0 0) 0 [] (some w.heap.size) :=
    ⟨by simp, .inr ⟨_, 0, 0, #[], rfl, rfl, Blk.new w _ _, Nat.le_refl _, by simp, fun i x hx => by simp at hx⟩⟩
  have hsrc : Src Tryd.prog 4 40 (.slice (some ⟨b, o, none⟩) n cap) n xs (w.alloc (.cells #[] 42)) := (h.alloc _).src Tryd.underlying40 h1
  have hmax : 0 + n ≤ maxLen := by unfold maxLen; omega
  have hbound : (0 + n) * 32 ≤ 140737488355328 := by omega
  go_enter Tryd.func37, Tryd.ntmps37
  go_wp2_with (at_builtin; refine wpList_append_sl _ rfl (.tmp 5) (.tmp 6) 40 40 rfl 42 i0 _ 4 32 Tryd.underlying40 hi hz0 hz1 hz2 rfl (.slice (some ⟨w.heap.size, 0, none⟩) 0 0) 0 [] (some w.heap.size) rfl hV (.slice (some ⟨b, o, none⟩) n cap) n xs rfl hsrc hmax hbound ?_)
  intro v' ob' w2 hS2 hg2 hob2
  have HS := Lib.hid hS2
  clear hS2
  go_wp2
  go_ret
  have hS := HS.out
  refine ⟨v', ob', rfl, hS, fun b hb => ?_, ?_, ?_⟩
  · rcases hob2 with h | h <;> rw [h] at hb <;> cases hb <;> simp
  · rcases hob2 with h | h <;> rw [h] <;> simp
  · exact ((Below.refl _ _).alloc (Nat.le_refl _) _).grown hg2 (by simp) (fun k hk => by cases hk; exact Nat.le_refl _)

set_option maxRecDepth 20000 in
set_option maxHeartbeats 400000 in
theorem cloneL_any (A : Option Addr) (b cap n : Nat) (xs : List Value) (w : World) (h : SlAt w 40 1 (.slice A n cap) n xs (some b)) (h1 : ∀ u ∈ xs, u.oneCell' = true) (hn : n ≤ 1000) :
    Calls Tryd.prog 74 #[.slice A n cap] w (fun e w' => ∃ v' ob', e = .returned v' ∧ SlAt w' 40 1 v' n xs ob' ∧ (∀ b, ob' = some b → w.heap.size ≤ b) ∧ ob' ≠ none ∧ Below w.heap.size w w') := by
  obtain ⟨i0, hi, hz0, hz1, hz2⟩ := info_parts Tryd.infoLine
  obtain ⟨b1, o, cap1, cur, hv, hb0, _⟩ := h.some_ (by simp)
  cases hv
  cases hb0
  have hne : ∀ W, (binOp .eql 35 (.slice (some ⟨b, o, none⟩) n cap) (.slice none 0 0)).run Tryd.prog W = .ok (.bool false) W := fun W => by
    simpa using Lib.run_eql_slice_nil (P := Tryd.prog) W 35 40 (some ⟨b, o, none⟩) n cap 0 0 Tryd.underlying35
  have hV : SlAt (w.alloc (.cells #[] 40)) 40 1 (.slice (some ⟨w.heap.size, 0, none⟩) 0 0) 0 [] (some w.heap.size) :=
    ⟨by simp, .inr ⟨_, 0, 0, #[], rfl, rfl, Blk.new w _ _, Nat.le_refl _, by simp, fun i x hx => by simp at hx⟩⟩
  have hsrc : Src Tryd.prog 1 35 (.slice (some ⟨b, o, none⟩) n cap) n xs (w.alloc (.cells #[] 40)) := (h.alloc _).src Tryd.underlying35 h1
  have hmax : 0 + n ≤ maxLen := by unfold maxLen; omega
  have hbound : (0 + n) * 24 ≤ 140737488355328 := by omega
  go_enter Tryd.func74, Tryd.ntmps74
  go_wp2_with (at_builtin; refine wpList_append_sl _ rfl (.tmp 5) (.tmp 6) 35 35 rfl 40 i0 _ 1 24 Tryd.underlying35 hi hz0 hz1 hz2 rfl (.slice (some ⟨w.heap.size, 0, none⟩) 0 0) 0 [] (some w.heap.size) rfl hV (.slice (some ⟨b, o, none⟩) n cap) n xs rfl hsrc hmax hbound ?_)
  intro v' ob' w2 hS2 hg2 hob2
  have HS := Lib.hid hS2
  clear hS2
  go_wp2
  go_ret
  have hS := HS.out
  refine ⟨v', ob', rfl, hS, fun b hb => ?_, ?_, ?_⟩
  · rcases hob2 with h | h <;> rw [h] at hb <;> cases hb <;> simp
  · rcases hob2 with h | h <;> rw [h] <;> simp
  · exact ((Below.refl _ _).alloc (Nat.le_refl _) _).grown hg2 (by simp) (fun k hk => by cases hk; exact Nat.le_refl _)

/-- A row of a slice of rows, as the walk wants it. -/
theorem RowsAt.row {w : World} {v : Value} {L : List PG.Line} {ob : Option Nat} {rb : List Nat} (h : RowsAt w v L ob rb) {i : Nat} {l : PG.Line} (hi : L[i]? = some l) :
    ∃ bo oo co b o c, v = .slice (some ⟨bo, oo, none⟩) L.length co ∧ ob = some bo ∧ L.length ≤ co ∧ w.cell? ⟨bo, oo + i, none⟩ = some (.slice (some ⟨b, o, none⟩) l.length c) ∧ rb[i]? = some b ∧ l.length ≤ c ∧
      SlAt w 42 4 (.slice (some ⟨b, o, none⟩) l.length c) l.length (flat l) (some b) := by
  obtain ⟨vals, hS, hl, hr⟩ := h
  have hlt : i < L.length := (List.getElem?_eq_some_iff.1 hi).1
  obtain ⟨bo, oo, co, cur, rfl, rfl, hB, hc, hs, hx⟩ := hS.some_ (hS.ob_ (by omega))
  obtain ⟨u, b, h1, h2, h3⟩ := hr i l hi
  obtain ⟨b', o, c, cur', rfl, hb, hB', hc', _⟩ := h3.some_ (by simp)
  cases hb
  exact ⟨bo, oo, co, b, o, c, rfl, rfl, hc, hS.cells i _ h1, h2, hc', h3⟩

def CopiedRel (L : List PG.Line) (B : Nat) (w : World) (v i : Value) (wr : World) : Prop :=
  ∃ (k : Nat) (ob : Option Nat) (rb : List Nat), k ≤ L.length ∧ i = .int .i64 k ∧ RowsAt wr v (L.take k) ob rb ∧ (∀ b, ob = some b → B ≤ b) ∧ (∀ b ∈ rb, B ≤ b) ∧ rb.Nodup ∧ Below B w wr

set_option maxRecDepth 20000 in
set_option maxHeartbeats 1000000 in
theorem copied_any (v : Value) (L : List PG.Line) (ob : Option Nat) (rb : List Nat) (w : World) (h : RowsAt w v L ob rb) (hn : L.length ≤ 1000) (hl : ∀ l ∈ L, l.length ≤ 1000) : Calls Tryd.prog 24 #[v] w (NewRows w L) := by
  obtain ⟨i0, hi, hz0, hz1, hz2⟩ := info_parts Tryd.infoLine
  obtain ⟨a0, c0, rfl, _⟩ := (show SlAt w 40 1 v L.length _ ob from h.choose_spec.1).form
  go_enter Tryd.func24, Tryd.ntmps24
  go_wp2_with fail
  go_loopw [3, 5, 8] (fun v _ i wr => CopiedRel L w.heap.size w v i wr) (fun _ _ i _ => L.length - (intOf i).toNat)
  case atStart => exact ⟨0, none, [], Nat.zero_le _, rfl, by simpa using RowsAt.nil w, fun _ h => (by cases h), fun _ h => (by cases h), List.nodup_nil, Below.refl _ _⟩
  case round =>
    obtain ⟨k, ob1, rb1, hk, rfl, hR, hob, hrb, hnd, hb⟩ := hrel
    by_cases hlt : k < L.length
    · have hLk := List.getElem?_eq_getElem hlt
      have hll := hl _ (List.getElem_mem hlt)
      have hLt : L.take (k + 1) = L.take k ++ [L[k]] := by rw [List.take_succ_eq_append_getElem hlt]
      have HLt := Lib.hid hLt
      obtain ⟨l, hle⟩ : ∃ l, l = L[k] := ⟨_, rfl⟩
      rw [← hle] at hLk hll HLt
      clear hle hLt
      obtain ⟨bo, oo, co, b, o, c, hv, ho, hco, hcell, hrbk, hc, hrow⟩ := h.row hLk
      cases hv
      have hbo := h.lt.1 bo ho
      have hbr := h.lt.2 b (List.mem_of_getElem? hrbk)
      have hcell1 : wr.cell? ⟨bo, oo + k, none⟩ = some (.slice (some ⟨b, o, none⟩) l.length c) := (hb.cell (p := ⟨bo, oo + k, none⟩) hbo).trans hcell
      have hrow1 : SlAt wr 42 4 (.slice (some ⟨b, o, none⟩) l.length c) l.length (flat l) (some b) := hrow.below hb (fun b' e => by cases e; exact hbr)
      have HLK := Lib.hid hLk
      clear hLk hcell
      go_wp2_with fail
      refine (cloneC_any _ b c l.length (flat l) _ hrow1 (flat_one l) hll).mono ?_
      rintro e w1 ⟨u, ou, rfl, hS, hg, hou, hb1⟩
      obtain ⟨g, go, gc, _, rfl, rfl, _⟩ := hS.some_ hou
      have hg := hg g rfl
      have hR1 : RowsAt w1 _ _ ob1 rb1 := hR.below hb1 hR.lt.1 hR.lt.2
      obtain ⟨vals, hV, _⟩ := hR1.vals_one
      have hRlt := hR.lt.2
      have HR := Lib.hid hR1
      have hVa := hV.alloc (.cells #[.slice (some ⟨g, go, none⟩) l.length gc] 40)
      have hsrc : Src Tryd.prog 1 35 (.slice (some ⟨w1.heap.size, 0, none⟩) 1 1) 1 [.slice (some ⟨g, go, none⟩) l.length gc] (w1.alloc (.cells #[.slice (some ⟨g, go, none⟩) l.length gc] 40)) :=
        Src.ofSlice _ Tryd.underlying35 _ 1 1 [.slice (some ⟨g, go, none⟩) l.length gc] rfl (cell_one_new _ _ _) (by intro x hx; simp at hx; subst hx; rfl)
      have htk : (L.take k).length = k := by simp; omega
      have HTK := Lib.hid htk
      rw [htk] at hVa
      have hbound : (k + 1) * 24 ≤ 140737488355328 := by omega
      have hmax : k + 1 ≤ maxLen := by unfold maxLen; omega
      clear hR hR1 htk
      go_wp2_with (at_builtin; refine wpList_append_sl _ rfl (.tmp 12) (.tmp 15) 35 35 rfl 40 i0 _ 1 24 Tryd.underlying35 hi hz0 hz1 hz2 rfl u3 k vals ob1 rfl hVa (.slice (some ⟨w1.heap.size, 0, none⟩) 1 1) 1 [.slice (some ⟨g, go, none⟩) l.length gc] rfl hsrc hmax hbound ?_)
      intro v' ob' w2 hS2 hg2 hob2
      have hRa : RowsAt (w1.alloc (.cells #[.slice (some ⟨g, go, none⟩) l.length gc] 40)) _ _ ob1 rb1 := HR.out.same (fun b e => Below.heap_alloc _ _ _ (HR.out.lt.1 b e)) (fun b e => Below.heap_alloc _ _ _ (HR.out.lt.2 b e))
      have hSl : SlAt (w1.alloc (.cells #[.slice (some ⟨g, go, none⟩) l.length gc] 40)) 42 4 (.slice (some ⟨g, go, none⟩) l.length gc) l.length (flat l) (some g) := hS.alloc _
      have hR2 : RowsAt w2 v' (L.take (k + 1)) ob' (rb1 ++ [g]) := by
        rw [HLt.out]
        exact hRa.snoc (by rw [HTK.out]; exact hVa) (by rw [HTK.out]; exact hS2) hg2 hSl
      have hbs := hb.size
      have hbs1 := hb1.size
      have hob' : ∀ b, ob' = some b → w.heap.size ≤ b := by
        intro b e
        rcases hob2 with h | h
        · exact hob b (by rw [← h]; exact e)
        · rw [h] at e; cases e; first | omega | (simp; omega)
      have hb2 : Below w.heap.size w w2 := ((hb.trans (hb1.mono hbs)).alloc (Nat.le_trans hbs hbs1) _).grown hg2 (by simp; omega) hob
      have hnd2 : (rb1 ++ [g]).Nodup := by
        rw [List.nodup_append]
        refine ⟨hnd, by simp, fun a ha b hb' => ?_⟩
        simp at hb'
        subst hb'
        have := hRlt a ha
        omega
      have hrb2 : ∀ b ∈ rb1 ++ [g], w.heap.size ≤ b := fun b hb' => by
        rcases List.mem_append.1 hb' with h | h
        · exact hrb b h
        · simp at h; subst h; omega
      have HR2 := Lib.hid hR2
      clear hR2 hSl hRa hVa hsrc hS2
      go_wp2
      go_simp
      go_roundw
      case rel => exact ⟨k + 1, ob', rb1 ++ [g], by omega, by go_num, HR2.out, hob', hrb2, hnd2, hb2⟩
      case measure => simp [intOf]; omega
    · have hkn : L.length ≤ k := by omega
      rw [List.take_of_length_le hkn] at hR
      go_wp2
      go_ret
      exact ⟨_, ob1, rb1, rfl, hR, hob, hrb, hnd, hb⟩

end Go.Proofs.YtdbepelcgmnbbaaDoor
