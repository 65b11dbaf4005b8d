/- Rows of cells moved about and written: what becomes of a grid in memory. -/
import Derived.Test.YtdbepelcgmnbbaaDoorGridAt
namespace Go.Proofs.YtdbepelcgmnbbaaDoor
open Go Go.RowKit

theorem nodup_at {l : List Nat} (h : l.Nodup) {i j b : Nat} (hi : l[i]? = some b) (hj : l[j]? = some b) : i = j := by
  obtain ⟨h1, e1⟩ := List.getElem?_eq_some_iff.1 hi
  obtain ⟨h2, e2⟩ := List.getElem?_eq_some_iff.1 hj
  have hp := List.pairwise_iff_getElem.1 h
  rcases Nat.lt_trichotomy i j with hlt | rfl | hlt
  · exact absurd (e1.trans e2.symm) (hp i j h1 h2 hlt)
  · rfl
  · exact absurd (e2.trans e1.symm) (hp j i h2 h1 hlt)

/-- A row: the slice value, its block, what it reads as. -/
structure Rw where
  v : Value
  b : Nat
  l : PG.Line

def RowsZ (w : World) (v : Value) (R : List Rw) (ob : Option Nat) : Prop :=
  SlAt w 40 1 v R.length (R.map Rw.v) ob ∧ ∀ x ∈ R, SlAt w 42 4 x.v x.l.length (flat x.l) (some x.b)

theorem RowsZ.rows {w : World} {v : Value} {R : List Rw} {ob : Option Nat} (h : RowsZ w v R ob) : RowsAt w v (R.map Rw.l) ob (R.map Rw.b) := by
  refine ⟨R.map Rw.v, by simpa using h.1, by simp, fun i l hi => ?_⟩
  rw [List.getElem?_map] at hi
  cases hx : R[i]? with
  | none => rw [hx] at hi; cases hi
  | some x =>
    rw [hx] at hi
    cases hi
    exact ⟨x.v, x.b, by simp [hx], by simp [hx], h.2 x (List.mem_of_getElem? hx)⟩

theorem zip3 : ∀ (L : List PG.Line) (vals : List Value) (rb : List Nat), vals.length = L.length → rb.length = L.length → ∃ R : List Rw, R.map Rw.l = L ∧ R.map Rw.v = vals ∧ R.map Rw.b = rb
  | [], vals, rb, h1, h2 => ⟨[], rfl, (List.eq_nil_of_length_eq_zero h1).symm, (List.eq_nil_of_length_eq_zero h2).symm⟩
  | l :: L, [], rb, h1, h2 => by simp at h1
  | l :: L, v :: vals, [], h1, h2 => by simp at h2
  | l :: L, v :: vals, b :: rb, h1, h2 => by
    obtain ⟨R, e1, e2, e3⟩ := zip3 L vals rb (by simpa using h1) (by simpa using h2)
    exact ⟨⟨v, b, l⟩ :: R, by simp [e1], by simp [e2], by simp [e3]⟩

theorem RowsAt.zip {w : World} {v : Value} {L : List PG.Line} {ob : Option Nat} {rb : List Nat} (h : RowsAt w v L ob rb) : ∃ R, R.map Rw.l = L ∧ R.map Rw.b = rb ∧ RowsZ w v R ob := by
  obtain ⟨vals, hS, hl, hr⟩ := h
  obtain ⟨R, e1, e2, e3⟩ := zip3 L vals rb (by have := hS.len; omega) hl
  subst e1 e2 e3
  refine ⟨R, rfl, rfl, by simpa using hS, fun x hx => ?_⟩
  obtain ⟨i, hi, rfl⟩ := List.mem_iff_getElem.1 hx
  obtain ⟨u, b, h1, h2, h3⟩ := hr i R[i].l (by simp [hi])
  simp [hi] at h1 h2
  rw [h1, h2]
  exact h3

theorem RowsZ.one {w : World} {v : Value} {R : List Rw} {ob : Option Nat} (h : RowsZ w v R ob) : ∀ u ∈ R.map Rw.v, u.oneCell' = true := by
  intro u hu
  obtain ⟨x, hx, rfl⟩ := List.mem_map.1 hu
  obtain ⟨a, c, e, _⟩ := (h.2 x hx).form
  rw [e]; rfl

theorem map_over {α β : Type} (f : α → β) (xs : List α) (k : Nat) (cs : List α) : (over xs k cs).map f = over (xs.map f) k (cs.map f) := by
  simp [over, List.map_append, List.map_take, List.map_drop]

section
variable {w w' : World} {p : Nat} {F : Nat → Prop} {g g' : PG.G} {vc vt vo vp vq : Value} {bc bt bo bp : Option Nat} {rc ro rp : List Nat}

/-- The blocks of a grid that are none of its rows of cells, and not the rows' own slice. -/
theorem GridMem.apart (h : GridMem w p g vc vt vo vp vq bc bt bo bp rc ro rp) {b : Nat} (hb : bc = some b ∨ b ∈ rc) :
    b ≠ p ∧ bt ≠ some b ∧ bo ≠ some b ∧ bp ≠ some b ∧ b ∉ ro ∧ b ∉ rp := by
  have no : ∀ {v : Value} {o : Option (List PG.Line)} {ob : Option Nat} {rb : List Nat}, OtherAt w v o ob rb → (∃ L, ob = none ∧ rb = [] ∨ RowsAt w v L ob rb) := by
    intro v o ob rb h
    unfold OtherAt at h
    cases o with
    | none => exact ⟨[], .inl ⟨h.2.1, h.2.2⟩⟩
    | some L => exact ⟨L, .inr h.1⟩
  have cross : ∀ {v v' : Value} {L L' : List PG.Line} {o1 o2 : Option Nat} {r1 r2 : List Nat}, RowsAt w v L o1 r1 → RowsAt w v' L' o2 r2 → ∀ b, o1 = some b → b ∉ r2 := by
    intro v v' L L' o1 o2 r1 r2 h1 h2 b e hb
    obtain ⟨vals, hS, _, _⟩ := h1
    subst e
    obtain ⟨R, e1, e2, hz⟩ := h2.zip
    rw [← e2] at hb
    obtain ⟨x, hx, rfl⟩ := List.mem_map.1 hb
    exact (hS.ne_ (hz.2 x hx) (by decide)) rfl
  have hno := no h.other
  obtain ⟨Lo, hLo⟩ := hno
  have ho := h.outs
  have hr := h.rws
  rw [List.nodup_append] at ho hr
  obtain ⟨_, ho2, ho3⟩ := ho
  obtain ⟨_, hr2, hr3⟩ := hr
  refine ⟨?_, ?_, ?_, ?_, ?_, ?_⟩
  · rcases hb with e | e
    · exact (h.cells.ne_blk h.blk (by decide) (by decide)).1 b e
    · exact (h.cells.ne_blk h.blk (by decide) (by decide)).2 b e
  · intro e
    have ht := h.tabs
    rw [e] at ht
    obtain ⟨vals, hS, hl, hrows⟩ := h.cells
    rcases hb with e' | e'
    · rw [e'] at hS; exact (hS.ne_ ht (by decide)) rfl
    · obtain ⟨R, e1, e2, hz⟩ := h.cells.zip
      rw [← e2] at e'
      obtain ⟨x, hx, rfl⟩ := List.mem_map.1 e'
      exact ((hz.2 x hx).ne_ ht (by decide)) rfl
  · intro e
    rcases hb with e' | e'
    · exact ho3 b (by simp [e']) b (by simp [e]) rfl
    · rcases hLo with ⟨hn, _⟩ | hR
      · rw [hn] at e; cases e
      · exact cross hR h.cells b e e'
  · intro e
    rcases hb with e' | e'
    · exact ho3 b (by simp [e']) b (by simp [e]) rfl
    · exact cross h.past h.cells b e e'
  · intro e
    rcases hb with e' | e'
    · rcases hLo with ⟨_, hn⟩ | hR
      · rw [hn] at e; cases e
      · exact cross h.cells hR b e' e
    · exact hr3 b e' b (by simp [e]) rfl
  · intro e
    rcases hb with e' | e'
    · exact cross h.cells h.past b e' e
    · exact hr3 b e' b (by simp [e]) rfl

/-- The cells are others now; of the old blocks only the rows' slice and the rows have turned. -/
theorem GridMem.newcells {rc' : List Nat} {bc' : Option Nat} (h : GridMem w p g vc vt vo vp vq bc bt bo bp rc ro rp)
    (hs : ∀ b, b < w.heap.size → bc ≠ some b → b ∉ rc → w'.heap[b]? = w.heap[b]?) (hB : Blk w' p 52 (gcells g' vc vt vo vp vq)) (hR : RowsAt w' vc g'.cells bc' rc')
    (e2 : g'.tabs = g.tabs) (e3 : g'.other = g.other) (e4 : g'.past = g.past) (hb' : bc' = bc) (hn : (rc' ++ (ro ++ rp)).Nodup) : GridMem w' p g' vc vt vo vp vq bc' bt bo bp rc' ro rp := by
  have ne : ∀ {b}, (bc = some b ∨ b ∈ rc) → b ≠ p ∧ bt ≠ some b ∧ bo ≠ some b ∧ bp ≠ some b ∧ b ∉ ro ∧ b ∉ rp := fun hb => h.apart hb
  have keep : ∀ b, b < w.heap.size → (bt = some b ∨ bo = some b ∨ bp = some b ∨ b ∈ ro ∨ b ∈ rp) → w'.heap[b]? = w.heap[b]? := by
    intro b hlt hb
    refine hs b hlt (fun e => ?_) (fun e => ?_)
    · have := ne (.inl e); rcases hb with h | h | h | h | h <;> simp_all
    · have := ne (.inr e); rcases hb with h | h | h | h | h <;> simp_all
  subst hb'
  refine ⟨hB, hR, ?_, ?_, ?_, h.outs, hn⟩
  · rw [e2]; exact h.tabs.same (fun b e => keep b (h.tabs.lt b e) (.inl e))
  · rw [e3]; exact h.other.same (fun b e => keep b (h.other.lt.1 b e) (.inr (.inl e))) (fun b e => keep b (h.other.lt.2 b e) (.inr (.inr (.inr (.inl e)))))
  · rw [e4]; exact h.past.same (fun b e => keep b (h.past.lt.1 b e) (.inr (.inr (.inl e)))) (fun b e => keep b (h.past.lt.2 b e) (.inr (.inr (.inr (.inr e)))))

/-- One row holds other cells. -/
theorem GridMem.setrow (h : GridMem w p g vc vt vo vp vq bc bt bo bp rc ro rp) {i b : Nat} {u : Value} {l l' : PG.Line} (hi : g.cells[i]? = some l) (hb : rc[i]? = some b)
    (hu : SlAt w 42 4 u l.length (flat l) (some b)) (hu' : SlAt w' 42 4 u l'.length (flat l') (some b)) (hs : ∀ k, k < w.heap.size → k ≠ b → w'.heap[k]? = w.heap[k]?)
    (hrow : ∀ vals, SlAt w 40 1 vc g.cells.length vals bc → vals[i]? = some u) : GridMem w' p { g with cells := g.cells.set i l' } vc vt vo vp vq bc bt bo bp rc ro rp := by
  have hbm : b ∈ rc := List.mem_of_getElem? hb
  have na := h.apart (.inr hbm)
  have hbc : bc ≠ some b := by
    intro e
    obtain ⟨vals, hS, _, _⟩ := h.cells
    rw [e] at hS
    exact (hS.ne_ hu (by decide)) rfl
  have hnd : rc.Nodup := (List.nodup_append.1 h.rws).1
  refine h.newcells (w' := w') (g' := { g with cells := g.cells.set i l' }) (rc' := rc) (bc' := bc) ?_ ?_ ?_ rfl rfl rfl rfl h.rws
  · intro k hk _ hk2
    exact hs k hk (fun e => hk2 (e ▸ hbm))
  · exact h.blk.same (hs p h.blk.lt (Ne.symm na.1))
  · obtain ⟨vals, hS, hl, hr⟩ := h.cells
    have hv := hrow vals hS
    have hil : i < g.cells.length := (List.getElem?_eq_some_iff.1 hi).1
    refine ⟨vals, ?_, by simp [hl], fun j m hj => ?_⟩
    · rw [List.length_set]
      exact hS.same (fun k e => hs k (hS.lt k e) (fun e' => hbc (by rw [e, e'])))
    · by_cases e : j = i
      · subst e
        simp [hil] at hj
        subst hj
        exact ⟨u, b, hv, hb, hu'⟩
      · simp [List.getElem?_set, show ¬ i = j from fun e' => e e'.symm] at hj
        obtain ⟨u2, b2, h1, h2, h3⟩ := hr j m hj
        refine ⟨u2, b2, h1, h2, h3.same fun k ek => ?_⟩
        cases ek
        refine hs b2 (h3.lt _ rfl) (fun e' => e ?_)
        subst e'
        exact nodup_at hnd h2 hb

theorem gpost_setrow (hI' : PG.G.Inv g') (hF : ∀ b, F b → b < w.heap.size) (hM : GridMem w' p g' vc vt vo vp vq bc bt bo bp rc ro rp) (hfoot : ∀ b, footG p bc bt bo bp rc ro rp b → F b)
    {b : Nat} (hb : F b) (hg : w.grownBy w' (some b)) : GPost w p F g' vq (.returned (.tuple #[])) w' :=
  ⟨F, rfl, ⟨hI', fun k hk => Nat.lt_of_lt_of_le (hF k hk) hg.size, vc, vt, vo, vp, bc, bt, bo, bp, rc, ro, rp, hM, hfoot⟩,
    ⟨hg.os, hg.tape, hg.output, hg.size, fun k hk hn => hg.block k hk (by rintro e; cases e; exact hn hb), fun _ h => .inl h⟩⟩
end

theorem nodup_mid {A M M' C X : List Nat} (h : (A ++ M ++ C ++ X).Nodup) (hM : M'.Nodup) (hd : ∀ b ∈ M', b ∈ M ∨ b ∉ A ++ M ++ C ++ X) : (A ++ M' ++ C ++ X).Nodup := by
  simp only [List.nodup_append, List.mem_append] at h ⊢
  obtain ⟨⟨⟨hA, hMn, hAM⟩, hC, hAMC⟩, hX, hall⟩ := h
  have out : ∀ b ∈ M', b ∈ M ∨ (b ∉ A ∧ b ∉ C ∧ b ∉ X) := by
    intro b hb
    rcases hd b hb with h | h
    · exact .inl h
    · simp at h; exact .inr ⟨h.1, h.2.2.1, h.2.2.2⟩
  refine ⟨⟨⟨hA, hM, fun a ha b hb => ?_⟩, hC, fun a ha b hb => ?_⟩, hX, fun a ha b hb => ?_⟩
  · rcases out b hb with h | h
    · exact hAM a ha b h
    · rintro rfl; exact h.1 ha
  · rcases ha with ha | ha
    · exact hAMC a (.inl ha) b hb
    · rcases out a ha with h | h
      · exact hAMC a (.inr h) b hb
      · rintro rfl; exact h.2.1 hb
  · rcases ha with (ha | ha) | ha
    · exact hall a (.inl (.inl ha)) b hb
    · rcases out a ha with h | h
      · exact hall a (.inl (.inr h)) b hb
      · rintro rfl; exact h.2.2 hb
    · exact hall a (.inr ha) b hb

/-- A stretch of the rows holds other rows: some that were there, some new. -/
theorem GridMem.relaid {w w4 : World} {p : Nat} {g : PG.G} {vc vt vo vp vq : Value} {b : Nat} {bt bo bp : Option Nat} {rc ro rp : List Nat} {R : List Rw}
    (h : GridMem w p g vc vt vo vp vq (some b) bt bo bp rc ro rp) (hZ : RowsZ w vc R (some b)) (eL : R.map Rw.l = g.cells) (eb : R.map Rw.b = rc) (row len : Nat) (hlen : row + len ≤ R.length) (M' : List Rw) (hM : M'.length = len)
    (hmem : ∀ x ∈ M', x ∈ (R.drop row).take len ∨ (w.heap.size ≤ x.b ∧ SlAt w4 42 4 x.v x.l.length (flat x.l) (some x.b))) (hnd : (M'.map Rw.b).Nodup) (hkeep : ∀ k, k < w.heap.size → k ≠ b → w4.heap[k]? = w.heap[k]?)
    (hS4 : SlAt w4 40 1 vc R.length (over (R.map Rw.v) row (M'.map Rw.v)) (some b)) :
    ∃ rc', GridMem w4 p { g with cells := over g.cells row (M'.map Rw.l) } vc vt vo vp vq (some b) bt bo bp rc' ro rp ∧ ∀ k ∈ rc', k ∈ rc ∨ w.heap.size ≤ k := by
  have hrow : ∀ x ∈ R, x.b < w.heap.size ∧ x.b ≠ b := fun x hx => ⟨(hZ.2 x hx).lt _ rfl, fun e => by
    have := hZ.1
    rw [← e] at this
    exact (this.ne_ (hZ.2 x hx) (by decide)) rfl⟩
  have hold : ∀ x ∈ R, SlAt w4 42 4 x.v x.l.length (flat x.l) (some x.b) := fun x hx => (hZ.2 x hx).same fun k e => by cases e; exact hkeep _ (hrow x hx).1 (hrow x hx).2
  have hsub : ∀ x ∈ (R.drop row).take len, x ∈ R := fun x hx => List.mem_of_mem_drop (List.mem_of_mem_take hx)
  have hall : ∀ x ∈ over R row M', SlAt w4 42 4 x.v x.l.length (flat x.l) (some x.b) := by
    intro x hx
    unfold over at hx
    simp only [List.mem_append] at hx
    rcases hx with hx | hx | hx
    · exact hold x (List.mem_of_mem_take hx)
    · rcases hmem x hx with h' | h'
      · exact hold x (hsub x h')
      · exact h'.2
    · exact hold x (List.mem_of_mem_drop hx)
  have hlo : (over R row M').length = R.length := length_over _ _ _ (by omega)
  have hZ4 : RowsZ w4 vc (over R row M') (some b) := ⟨by rw [hlo, map_over]; exact hS4, hall⟩
  have hR4 := hZ4.rows
  rw [map_over, map_over, eL] at hR4
  have key : (over (R.map Rw.b) row (M'.map Rw.b) ++ (ro ++ rp)).Nodup := by
    have e1 : R.map Rw.b = (R.take row).map Rw.b ++ ((R.drop row).take len).map Rw.b ++ (R.drop (row + len)).map Rw.b := by
      rw [← List.map_append, ← List.map_append]
      congr 1
      rw [List.append_assoc, ← List.drop_drop, List.take_append_drop, List.take_append_drop]
    have e2 : over (R.map Rw.b) row (M'.map Rw.b) = (R.take row).map Rw.b ++ M'.map Rw.b ++ (R.drop (row + len)).map Rw.b := by
      unfold over
      rw [List.length_map, hM, List.append_assoc, List.map_take, List.map_drop]
    have hr := h.rws
    rw [← eb, e1] at hr
    rw [e2]
    refine nodup_mid hr hnd (fun k hk => ?_)
    obtain ⟨x, hx, rfl⟩ := List.mem_map.1 hk
    rcases hmem x hx with h' | h'
    · exact .inl (List.mem_map.2 ⟨x, h', rfl⟩)
    · right
      rw [← e1, eb]
      intro hin
      rcases List.mem_append.1 hin with hin | hin
      · have := h.cells.lt.2 _ hin; omega
      · rcases List.mem_append.1 hin with hin | hin
        · have := h.other.lt.2 _ hin; omega
        · have := h.past.lt.2 _ hin; omega
  have hp := h.apart (b := b) (.inl rfl)
  refine ⟨over (R.map Rw.b) row (M'.map Rw.b), ?_, fun k hk => ?_⟩
  · exact h.newcells (g' := { g with cells := over g.cells row (M'.map Rw.l) }) (fun k hk hk2 _ => hkeep k hk (fun e => hk2 (by rw [e]))) (h.blk.same (hkeep p h.blk.lt (Ne.symm hp.1))) hR4 rfl rfl rfl rfl key
  · unfold over at hk
    simp only [List.mem_append, ← List.map_take, ← List.map_drop] at hk
    rcases hk with hk | hk | hk
    · obtain ⟨x, hx, rfl⟩ := List.mem_map.1 hk
      exact .inl (by rw [← eb]; exact List.mem_map.2 ⟨x, List.mem_of_mem_take hx, rfl⟩)
    · obtain ⟨x, hx, rfl⟩ := List.mem_map.1 hk
      rcases hmem x hx with h' | h'
      · exact .inl (by rw [← eb]; exact List.mem_map.2 ⟨x, hsub x h', rfl⟩)
      · exact .inr h'.1
    · obtain ⟨x, hx, rfl⟩ := List.mem_map.1 hk
      exact .inl (by rw [← eb]; exact List.mem_map.2 ⟨x, List.mem_of_mem_drop hx, rfl⟩)

end Go.Proofs.YtdbepelcgmnbbaaDoor
