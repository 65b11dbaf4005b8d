/- Words for memory: a block known whole, what a step of the program leaves as it was, slices that are owned; with the laws by which they go on. -/
import Derived.WalkKit
import Derived.WalkSpells
import Derived.WalkLawsBesides
import Derived.Deep.Draws
import Derived.Laws.Rows
import Derived.Lib.Hide
namespace Go.Proofs.YtdbepelcgmnbbaaDoor
open Go Go.RowKit

/-- Block g is just the cells cs of element type t, none frozen. -/
def Blk (w : World) (g : Nat) (t : TypeId) (cs : Array Value) : Prop := w.heap[g]? = some (.cells cs t (0, 0))

section
variable {w w' : World} {g : Nat} {t : TypeId} {cs : Array Value}
theorem Blk.lt (h : Blk w g t cs) : g < w.heap.size := by
  rcases Nat.lt_or_ge g w.heap.size with hlt | hge
  · exact hlt
  · unfold Blk at h; rw [Array.getElem?_eq_none hge] at h; cases h
theorem Blk.cell (h : Blk w g t cs) (i : Nat) : w.cell? ⟨g, i, none⟩ = cs[i]? := cell_of_row w g i cs t (0, 0) h
theorem Blk.frozen (h : Blk w g t cs) (i : Nat) : w.frozen? ⟨g, i, none⟩ = false := by
  unfold Blk at h
  simp [World.frozen?, h]
theorem Blk.new (w : World) (t : TypeId) (cs : Array Value) : Blk (w.alloc (.cells cs t)) w.heap.size t cs := heap_alloc_new w _
theorem Blk.new_at {n : Nat} (hn : n = w.heap.size) : Blk (w.alloc (.cells cs t)) n t cs := by subst hn; exact heap_alloc_new w _
theorem Blk.drew (h : Blk w g t cs) : Blk w.drew g t cs := h
theorem Blk.drewN (h : Blk w g t cs) (n : Nat) : Blk (w.drewN n) g t cs := h
theorem Blk.alloc (h : Blk w g t cs) (o : Obj) : Blk (w.alloc o) g t cs := (Below.heap_alloc w o g h.lt).trans h
theorem Blk.set_ (h : Blk w g t cs) (i : Nat) (u : Value) : Blk (w.setCell ⟨g, i, none⟩ u) g t (cs.setIfInBounds i u) := by
  unfold Blk at h ⊢
  simp [World.setCell, Array.getElem?_modify, h]
theorem Blk.far (h : Blk w g t cs) {p : Addr} (hp : g ≠ p.block) (u : Value) : Blk (w.setCell p u) g t cs := (Below.heap_setCell w p u g hp).trans h
theorem Blk.below {B : Nat} (h : Blk w g t cs) (hb : Below B w w') (hg : g < B) : Blk w' g t cs := (hb.block g hg).trans h
theorem Blk.same (h : Blk w g t cs) (hb : w'.heap[g]? = w.heap[g]?) : Blk w' g t cs := hb.trans h
theorem Blk.eq_ {cs' : Array Value} (h : Blk w g t cs) (h' : Blk w g t cs') : cs = cs' := by
  unfold Blk at h h'
  rw [h] at h'
  injection h' with h'
  injection h' with h'
theorem Blk.ne_ {g' : Nat} {t' : TypeId} {cs' : Array Value} (h : Blk w g t cs) (h' : Blk w g' t' cs') (hne : t ≠ t') : g ≠ g' := by
  rintro rfl
  unfold Blk at h h'
  rw [h] at h'
  injection h' with h'
  injection h' with _ ht
  exact hne ht
end

/-- Of the blocks that were there only those of F have turned; F' are F's or new ones. -/
structure Step (F F' : Nat → Prop) (w w' : World) : Prop where
  os : w'.os = w.os
  tape : w'.tape = w.tape
  output : w'.output = w.output
  size : w.heap.size ≤ w'.heap.size
  block : ∀ k, k < w.heap.size → ¬ F k → w'.heap[k]? = w.heap[k]?
  sub : ∀ b, F' b → F b ∨ w.heap.size ≤ b

section
variable {F F1 F2 : Nat → Prop} {w w1 w2 : World}
theorem Step.refl (F : Nat → Prop) (w : World) : Step F F w w := ⟨rfl, rfl, rfl, Nat.le_refl _, fun _ _ _ => rfl, fun _ h => .inl h⟩
theorem Step.trans (h : Step F F1 w w1) (k : Step F1 F2 w1 w2) : Step F F2 w w2 :=
  ⟨k.os.trans h.os, k.tape.trans h.tape, k.output.trans h.output, Nat.le_trans h.size k.size,
    fun i hi hn => (k.block i (Nat.lt_of_lt_of_le hi h.size) (fun hF => by rcases h.sub i hF with h' | h' <;> first | exact hn h' | omega)).trans (h.block i hi hn),
    fun b hb => by
      rcases k.sub b hb with h' | h'
      · exact h.sub b h'
      · exact .inr (Nat.le_trans h.size h')⟩
theorem Step.sub' {F3 : Nat → Prop} (h : Step F F1 w w1) (k : ∀ b, F3 b → F1 b ∨ w.heap.size ≤ b) : Step F F3 w w1 :=
  ⟨h.os, h.tape, h.output, h.size, h.block, fun b hb => by rcases k b hb with h' | h' <;> first | exact h.sub b h' | exact .inr h'⟩
theorem Step.of_below (h : Below w.heap.size w w1) (hF : ∀ b, F1 b → F b ∨ w.heap.size ≤ b) : Step F F1 w w1 := ⟨h.os, h.tape, h.output, h.size, fun k hk _ => h.block k hk, hF⟩
theorem Step.below {B : Nat} (h : Step F F1 w w1) (hF : ∀ b, F b → B ≤ b) (hB : B ≤ w.heap.size) : Below B w w1 := ⟨h.os, h.tape, h.output, h.size, fun k hk => h.block k (by omega) (fun hf => by have := hF k hf; omega)⟩
theorem Step.drew (h : Step F F1 w w1) : Step F F1 w w1.drew := ⟨h.os, h.tape, h.output, h.size, h.block, h.sub⟩
theorem Step.drewN (h : Step F F1 w w1) (n : Nat) : Step F F1 w (w1.drewN n) := ⟨h.os, h.tape, h.output, h.size, h.block, h.sub⟩
theorem Step.alloc (h : Step F F1 w w1) (o : Obj) : Step F F1 w (w1.alloc o) :=
  ⟨h.os, h.tape, h.output, Nat.le_trans h.size (by simp), fun k hk hn => (Below.heap_alloc w1 o k (Nat.lt_of_lt_of_le hk h.size)).trans (h.block k hk hn), h.sub⟩
theorem Step.setCell (h : Step F F1 w w1) {p : Addr} (hp : F p.block ∨ w.heap.size ≤ p.block) (u : Value) : Step F F1 w (w1.setCell p u) :=
  ⟨h.os, h.tape, h.output, by simpa using h.size, fun k hk hn => (Below.heap_setCell w1 p u k (by rintro rfl; rcases hp with hp | hp <;> first | exact hn hp | omega)).trans (h.block k hk hn), h.sub⟩
theorem Step.weaken {G : Nat → Prop} (h : Step F F1 w w1) (hG : ∀ b, F b → G b) : Step G F1 w w1 :=
  ⟨h.os, h.tape, h.output, h.size, fun k hk hn => h.block k hk (fun hf => hn (hG k hf)), fun b hb => by rcases h.sub b hb with h' | h' <;> first | exact .inl (hG b h') | exact .inr h'⟩
theorem Step.blk {g : Nat} {t : TypeId} {cs : Array Value} (h : Step F F1 w w1) (hb : Blk w g t cs) (hn : ¬ F g) : Blk w1 g t cs := hb.same (h.block g hb.lt hn)
theorem Step.cell {a : Addr} {v : Value} (h : Step F F1 w w1) (hc : w.cell? a = some v) (hn : ¬ F a.block) : w1.cell? a = some v :=
  (World.cell?_of_block (h.block a.block (World.block_lt_of_cell? w _ hc) hn)).trans hc
end

/-- The slice v of n elements (of type t, size cells each) holds the cells xs: nil, or a stretch of block ob, which is not frozen and reaches as far as its capacity. -/
def SlAt (w : World) (t : TypeId) (size : Nat) (v : Value) (n : Nat) (xs : List Value) (ob : Option Nat) : Prop :=
  xs.length = n * size ∧ ((v = .slice none 0 0 ∧ n = 0 ∧ ob = none) ∨
  ∃ b o cap cur, v = .slice (some ⟨b, o, none⟩) n cap ∧ ob = some b ∧ Blk w b t cur ∧ n ≤ cap ∧ o + cap * size ≤ cur.size ∧ ∀ i x, xs[i]? = some x → cur[o + i]? = some x)

section
variable {w w' : World} {t : TypeId} {size n : Nat} {v : Value} {xs : List Value} {ob : Option Nat}
theorem SlAt.nil (w : World) (t : TypeId) (size : Nat) : SlAt w t size (.slice none 0 0) 0 [] none := ⟨by simp, .inl ⟨rfl, rfl, rfl⟩⟩
theorem SlAt.same (h : SlAt w t size v n xs ob) (hs : ∀ b, ob = some b → w'.heap[b]? = w.heap[b]?) : SlAt w' t size v n xs ob := by
  obtain ⟨hl, h⟩ := h
  refine ⟨hl, ?_⟩
  rcases h with h | ⟨b, o, cap, cur, hv, hb, hB, r⟩
  · exact .inl h
  · exact .inr ⟨b, o, cap, cur, hv, hb, hB.same (hs b hb), r⟩
theorem SlAt.lt (h : SlAt w t size v n xs ob) : ∀ b, ob = some b → b < w.heap.size := by
  obtain ⟨hl, h⟩ := h
  rcases h with ⟨_, _, h⟩ | ⟨b, o, cap, cur, hv, hb, hB, r⟩
  · intro b hb; rw [h] at hb; cases hb
  · intro b' hb'; rw [hb] at hb'; cases hb'; exact hB.lt
theorem SlAt.len (h : SlAt w t size v n xs ob) : xs.length = n * size := h.1
theorem SlAt.form (h : SlAt w t size v n xs ob) : ∃ a cap, v = .slice a n cap ∧ n ≤ cap ∧ (a = none → cap = 0) := by
  obtain ⟨hl, h⟩ := h
  rcases h with ⟨h, h', _⟩ | ⟨b, o, cap, cur, hv, hb, hB, hc, r⟩
  · subst h'; exact ⟨none, 0, h, Nat.le_refl _, fun _ => rfl⟩
  · exact ⟨_, cap, hv, hc, fun h => by cases h⟩
theorem SlAt.some_ (h : SlAt w t size v n xs ob) (hn : ob ≠ none) :
    ∃ b o cap cur, v = .slice (some ⟨b, o, none⟩) n cap ∧ ob = some b ∧ Blk w b t cur ∧ n ≤ cap ∧ o + cap * size ≤ cur.size ∧ ∀ i x, xs[i]? = some x → cur[o + i]? = some x := by
  rcases h.2 with ⟨_, _, h⟩ | h
  · exact absurd h hn
  · exact h
theorem SlAt.ob_ (h : SlAt w t size v n xs ob) (hn : 0 < n) : ob ≠ none := by
  rcases h.2 with ⟨_, h, _⟩ | ⟨b, o, cap, cur, hv, hb, _⟩
  · omega
  · rw [hb]; exact fun h => by cases h
theorem SlAt.frozen {b : Nat} (h : SlAt w t size v n xs (some b)) (i : Nat) : w.frozen? ⟨b, i, none⟩ = false := by
  obtain ⟨b', o, cap, cur, hv, hb, hB, _⟩ := h.some_ (by simp)
  cases hb
  exact hB.frozen i
/-- Its cells, at its address. -/
theorem SlAt.cells {b o cap : Nat} (h : SlAt w t size (.slice (some ⟨b, o, none⟩) n cap) n xs ob) : ∀ i x, xs[i]? = some x → w.cell? ⟨b, o + i, none⟩ = some x := by
  rcases h.2 with ⟨h, _⟩ | ⟨b', o', cap', cur, hv, hb, hB, hc, hs, hx⟩
  · cases h
  · cases hv
    exact fun i x hi => (hB.cell _).trans (hx i x hi)
theorem SlAt.cellsAdd {b o cap : Nat} (h : SlAt w t size (.slice (some ⟨b, o, none⟩) n cap) n xs ob) : ∀ i x, xs[i]? = some x → w.cell? ((⟨b, o, none⟩ : Addr).add i) = some x := by
  intro i x hi
  rw [Addr.add_lit]
  exact h.cells i x hi
/-- A row of the kit's own words. -/
theorem SlAt.of_own {base : Nat} (h : w.ownsRow base t size v n xs) : SlAt w t size v n xs v.ownBlock := by
  obtain ⟨hl, h2⟩ := h
  refine ⟨hl, ?_⟩
  rcases h2 with ⟨h2, hn⟩ | ⟨g, cap, cur, hv, hg, hh, hnc, hm, hs, hx⟩
  · subst h2 hn
    exact .inl ⟨rfl, rfl, rfl⟩
  · subst hv
    refine .inr ⟨g, 0, cap, cur, rfl, rfl, hh, by omega, by omega, fun i x hi => ?_⟩
    have hi' : i < xs.length := (List.getElem?_eq_some_iff.1 hi).1
    rw [← hx] at hi
    simpa [List.getElem?_take, show i < n * size by omega] using hi
/-- A cut 'v[k:]', as the walk spells it. -/
theorem SlAt.from {b o cap k : Nat} (h : SlAt w t size (.slice (some ⟨b, o, none⟩) n cap) n xs ob) (hk : k ≤ n) :
    SlAt w t size (.slice (if cap = k then some ⟨b, o, none⟩ else some ⟨b, o + k * size, none⟩) (n - k) (cap - k)) (n - k) (xs.drop (k * size)) ob := by
  obtain ⟨hl, h⟩ := h
  refine ⟨by rw [List.length_drop, hl, Nat.sub_mul], ?_⟩
  rcases h with ⟨h, _⟩ | ⟨b', o', cap', cur, hv, hb, hB, hc, hs, hx⟩
  · cases h
  · cases hv
    by_cases e : cap = k
    · subst e
      rw [if_pos rfl]
      have e0 : n - cap = 0 := by omega
      refine .inr ⟨b, o, cap - cap, cur, rfl, hb, hB, by omega, by simp; omega, fun i x hi => ?_⟩
      rw [List.getElem?_drop] at hi
      have := (List.getElem?_eq_some_iff.1 hi).1
      have : n * size ≤ cap * size := Nat.mul_le_mul_right _ hc
      omega
    · rw [if_neg e]
      refine .inr ⟨b, o + k * size, cap - k, cur, rfl, hb, hB, by omega, ?_, fun i x hi => ?_⟩
      · rw [Nat.sub_mul]
        have : k * size ≤ cap * size := Nat.mul_le_mul_right _ (by omega)
        omega
      · rw [List.getElem?_drop] at hi
        rw [Nat.add_assoc]
        exact hx _ x hi
/-- A cut 'v[:k]'. -/
theorem SlAt.to {b o cap k : Nat} (h : SlAt w t size (.slice (some ⟨b, o, none⟩) n cap) n xs ob) (hk : k ≤ n) :
    SlAt w t size (.slice (some ⟨b, o, none⟩) k cap) k (xs.take (k * size)) ob := by
  obtain ⟨hl, h⟩ := h
  have hkn : k * size ≤ n * size := Nat.mul_le_mul_right _ hk
  refine ⟨by rw [List.length_take, hl]; omega, ?_⟩
  rcases h with ⟨h, _⟩ | ⟨b', o', cap', cur, hv, hb, hB, hc, hs, hx⟩
  · cases h
  · cases hv
    refine .inr ⟨b, o, cap, cur, rfl, hb, hB, by omega, hs, fun i x hi => ?_⟩
    rw [List.getElem?_take] at hi
    split at hi
    · exact hx i x hi
    · cases hi
theorem SlAt.drew (h : SlAt w t size v n xs ob) : SlAt w.drew t size v n xs ob := h
theorem SlAt.drewN (h : SlAt w t size v n xs ob) (k : Nat) : SlAt (w.drewN k) t size v n xs ob := h
theorem SlAt.alloc (h : SlAt w t size v n xs ob) (o : Obj) : SlAt (w.alloc o) t size v n xs ob := h.same fun b hb => Below.heap_alloc w o b (h.lt b hb)
theorem SlAt.grown {row : Option Nat} (h : SlAt w t size v n xs ob) (hg : w.grownBy w' row) (hne : ob = none ∨ ob ≠ row) : SlAt w' t size v n xs ob :=
  h.same fun b hb => hg.block b (h.lt b hb) (by rcases hne with h' | h' <;> rw [hb] at h' <;> first | cases h' | exact h')
theorem SlAt.below {B : Nat} (h : SlAt w t size v n xs ob) (hb : Below B w w') (hB : ∀ b, ob = some b → b < B) : SlAt w' t size v n xs ob := h.same fun b e => hb.block b (hB b e)
theorem SlAt.step {F F' : Nat → Prop} (h : SlAt w t size v n xs ob) (hs : Step F F' w w') (hF : ∀ b, ob = some b → ¬ F b) : SlAt w' t size v n xs ob := h.same fun b e => hs.block b (h.lt b e) (hF b e)
end

end Go.Proofs.YtdbepelcgmnbbaaDoor
