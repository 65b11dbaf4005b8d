/- Laws of the walk for copy and append over slices that are owned, whatever their place in a block. -/
import Derived.Test.YtdbepelcgmnbbaaDoorMem
import Derived.Deep.AppendSrc
import Derived.Deep.AppendLies
import Derived.Laws.IdiomCopy
import Derived.RegionTactic
namespace Go.Proofs.YtdbepelcgmnbbaaDoor
open Go Go.RowKit

/-- Cells laid over a row from a place on. -/
def laidOver (cur : Array Value) : Nat → List Value → Array Value
  | _, [] => cur
  | o, v :: r => laidOver (cur.setIfInBounds o v) (o + 1) r

theorem size_laidOver (cs : List Value) : ∀ (cur : Array Value) (o : Nat), (laidOver cur o cs).size = cur.size := by
  induction cs with
  | nil => intro cur o; rfl
  | cons v r ih => intro cur o; simp [laidOver, ih]

theorem get_laidOver (cs : List Value) : ∀ (cur : Array Value) (o k : Nat), o + cs.length ≤ cur.size → (laidOver cur o cs)[k]? = if o ≤ k ∧ k < o + cs.length then cs[k - o]? else cur[k]? := by
  induction cs with
  | nil => intro cur o k _; simp [laidOver]; omega
  | cons v r ih =>
    intro cur o k h
    simp only [List.length_cons] at h
    simp only [laidOver, List.length_cons]
    rw [ih _ _ _ (by simp; omega)]
    by_cases e : k = o
    · subst e
      rw [if_neg (by omega), if_pos (by omega)]
      simp [show k < cur.size by omega]
    · by_cases h2 : o ≤ k ∧ k < o + (r.length + 1)
      · rw [if_pos (by omega), if_pos (by omega)]
        rw [show k - o = (k - (o + 1)) + 1 by omega, List.getElem?_cons_succ]
      · rw [if_neg (by omega), if_neg (by omega)]
        rw [Array.getElem?_setIfInBounds]
        simp [show ¬ o = k by omega]

theorem Blk.setCells {b : Nat} {t : TypeId} (cs : List Value) : ∀ {w : World} {cur : Array Value} (o : Nat), Blk w b t cur → Blk (w.setCells b o cs) b t (laidOver cur o cs) := by
  induction cs with
  | nil => intro w cur o h; exact h
  | cons v r ih => intro w cur o h; exact ih (o + 1) (h.set_ o v)

theorem grownBy_setCells (b : Nat) (cs : List Value) : ∀ (w : World) (o : Nat), w.grownBy (w.setCells b o cs) (some b) := by
  induction cs with
  | nil => intro w o; exact ⟨rfl, rfl, rfl, Nat.le_refl _, fun _ _ _ => rfl⟩
  | cons v r ih =>
    intro w o
    have h := ih (w.setCell ⟨b, o, none⟩ v) (o + 1)
    exact ⟨h.os, h.tape, h.output, by have := h.size; simpa [World.setCells] using this, fun k hk hn => (h.block k (by simpa using hk) hn).trans (Below.heap_setCell w _ v k (by rintro rfl; exact hn rfl))⟩

theorem size_setCells (b : Nat) (cs : List Value) : ∀ (w : World) (o : Nat), (w.setCells b o cs).heap.size = w.heap.size := by
  induction cs with
  | nil => intro w o; rfl
  | cons v r ih => intro w o; simp [World.setCells, ih]

/-- The list behind such a write. -/
def over {α : Type} (xs : List α) (k : Nat) (cs : List α) : List α := xs.take k ++ (cs ++ xs.drop (k + cs.length))
theorem length_over {α : Type} (xs : List α) (k : Nat) (cs : List α) (h : k + cs.length ≤ xs.length) : (over xs k cs).length = xs.length := by simp [over]; omega
theorem get_over {α : Type} (xs : List α) (k i : Nat) (cs : List α) (h : k + cs.length ≤ xs.length) : (over xs k cs)[i]? = if k ≤ i ∧ i < k + cs.length then cs[i - k]? else xs[i]? := by
  unfold over
  have hm : min k xs.length = k := by omega
  by_cases h1 : i < k
  · rw [if_neg (by omega), List.getElem?_append_left (by simp; omega), List.getElem?_take, if_pos h1]
  · rw [List.getElem?_append_right (by simp; omega)]
    simp only [List.length_take, hm]
    by_cases h2 : i < k + cs.length
    · rw [if_pos (by omega), List.getElem?_append_left (by omega)]
    · rw [if_neg (by omega), List.getElem?_append_right (by omega), List.getElem?_drop]
      congr 1; omega

theorem SlAt.laid {w w' : World} {t : TypeId} {size n b o cap : Nat} {xs cs : List Value} {cur : Array Value} (h : SlAt w t size (.slice (some ⟨b, o, none⟩) n cap) n xs (some b)) (hc : Blk w b t cur)
    (k : Nat) (hk : k + cs.length ≤ xs.length) (hB : Blk w' b t (laidOver cur (o + k) cs)) : SlAt w' t size (.slice (some ⟨b, o, none⟩) n cap) n (over xs k cs) (some b) := by
  obtain ⟨hl, h⟩ := h
  refine ⟨by rw [length_over _ _ _ hk, hl], ?_⟩
  rcases h with ⟨h, _⟩ | ⟨b', o', cap', cur', hv, hb, hB', hcc, hs, hx⟩
  · cases h
  · cases hv
    cases hb
    have e := hc.eq_ hB'
    subst e
    have hnc : n * size ≤ cap * size := Nat.mul_le_mul_right _ hcc
    refine .inr ⟨b, o, cap, _, rfl, rfl, hB, hcc, by rw [size_laidOver]; exact hs, fun i x hi => ?_⟩
    rw [get_laidOver _ _ _ _ (by omega)]
    rw [get_over _ _ _ _ hk] at hi
    by_cases h1 : k ≤ i ∧ i < k + cs.length
    · rw [if_pos h1] at hi
      rw [if_pos (by omega), show o + i - (o + k) = i - k by omega]
      exact hi
    · rw [if_neg h1] at hi
      rw [if_neg (by omega)]
      exact hx i x hi

/-- These cells lie at that address (nothing is asked where there are none). -/
def CellsFrom (w : World) (s : Option Addr) (cs : List Value) : Prop := cs = [] ∨ ∃ ad, s = some ad ∧ ∀ j v, cs[j]? = some v → w.cell? (ad.add j) = some v
theorem SlAt.from_ {w : World} {t size n c : Nat} {a : Option Addr} {xs : List Value} {ob : Option Nat} (h : SlAt w t size (.slice a n c) n xs ob) : CellsFrom w a xs := by
  rcases h.2 with ⟨h1, rfl, _⟩ | ⟨b, o, cap, cur, h1, rfl, _⟩
  · exact .inl (List.eq_nil_of_length_eq_zero (by simpa using h.len))
  · cases h1
    exact .inr ⟨_, rfl, h.cellsAdd⟩
theorem CellsFrom.take {w : World} {s : Option Addr} {cs : List Value} (h : CellsFrom w s cs) (k : Nat) : CellsFrom w s (cs.take k) := by
  rcases h with h | ⟨ad, h1, h2⟩
  · exact .inl (by simp [h])
  · refine .inr ⟨ad, h1, fun j v hj => h2 j v ?_⟩
    rw [List.getElem?_take] at hj
    split at hj
    · exact hj
    · cases hj
theorem CellsFrom.of_blk {w : World} {b t : Nat} {cur : Array Value} (h : Blk w b t cur) : CellsFrom w (some ⟨b, 0, none⟩) cur.toList :=
  .inr ⟨_, rfl, fun j v hj => by rw [Addr.add_lit, Nat.zero_add, h.cell]; simpa using hj⟩
theorem CellsFrom.same {w w' : World} {s : Option Addr} {cs : List Value} (h : CellsFrom w s cs) (hk : ∀ b, (∃ ad, s = some ad ∧ ad.block = b) → w'.heap[b]? = w.heap[b]?) : CellsFrom w' s cs := by
  rcases h with h | ⟨ad, h1, h2⟩
  · exact .inl h
  · have hb : ∀ j, (ad.add j).block = ad.block := fun j => by unfold Addr.add; split <;> rfl
    exact .inr ⟨ad, h1, fun j v hj => (World.cell?_of_block (by rw [hb]; exact hk _ ⟨ad, h1, rfl⟩)).trans (h2 j v hj)⟩

section
variable {P : Program} (w : World)

/-- 'copy(dst, src)', whatever the elements' width; where nothing goes over nothing is asked of the addresses. -/
theorem run_copy_to (dT sT ty elem : TypeId) (i : TypeInfo) (size : Nat) (hu : P.underlying dT = some (.slice elem)) (hi : P.info? elem = some i) (hsz : i.size = size)
    (d s : Option Addr) (dLen dCap sLen sCap n : Nat) (hn : Nat.min sLen dLen = n) (g off : Nat) (cur : Array Value) (t : TypeId) (hg : Blk w g t cur) (cs : List Value) (hl : cs.length = n * size)
    (hdst : 0 < n → d = some ⟨g, off, none⟩) (hsrc : CellsFrom w s cs) (hfit : off + cs.length ≤ cur.size) (h1 : ∀ v ∈ cs, v.oneCell' = true) :
    ∃ w', (Builtin.copy_ #[dT, sT] ty #[.slice d dLen dCap, .slice s sLen sCap]).run P w = .ok (goInt n) w' ∧ Blk w' g t (laidOver cur off cs) ∧ w.grownBy w' (some g) ∧ w'.heap.size = w.heap.size := by
  by_cases h0 : n * size = 0
  · have hn0 : min sLen dLen = n := hn
    have hcs : cs = [] := List.eq_nil_of_length_eq_zero (by omega)
    subst hcs
    refine ⟨w, ?_, hg, ⟨rfl, rfl, rfl, Nat.le_refl _, fun _ _ _ => rfl⟩, rfl⟩
    have hl : ∀ (x : Addr), (loadCells x 0).run P w = .ok #[] w := fun x => by simpa using run_loadCells_list (P := P) w x [] (by simp)
    cases d <;> cases s <;> simp [Builtin.copy_, run_underlying hu, Builtin.lenOf, Builtin.firstCells, sizeOf, typeInfo, hi, hsz, hn0, h0, storeCells, hl]
  · have hnp : 0 < n := Nat.pos_of_ne_zero (fun e => h0 (by rw [e, Nat.zero_mul]))
    obtain rfl := hdst hnp
    obtain ⟨ad, rfl, hsrc2⟩ : ∃ ad, s = some ad ∧ ∀ j v, cs[j]? = some v → w.cell? (ad.add j) = some v := by
      rcases hsrc with h | h
      · subst h; simp at hl; omega
      · exact h
    refine ⟨w.setCells g off cs, ?_, hg.setCells cs off, grownBy_setCells g cs w off, size_setCells g cs w off⟩
    have hld := run_loadCells_list (P := P) w ad cs hsrc2
    have hst := run_storeCells_cells (P := P) g off cs 0 w (fun j hj => by rw [Nat.add_zero, hg.cell, Array.getElem?_eq_getElem (by omega)]; rfl) (fun j _ => hg.frozen _) h1
    simp only [Nat.add_zero] at hst
    rw [hl] at hld
    simp [Builtin.copy_, run_underlying hu, Builtin.lenOf, Builtin.firstCells, sizeOf, typeInfo, hi, hsz, hn, hld, hst]

theorem wp_copy_to {o : Oper} {a : Act} {K : Act → World → Prop} {Q : Exit → Act → World → Prop} (dx sx : Operand) (dT sT : TypeId)
    (ho : o.op = .call { callee := .builtin .copy, args := #[dx, sx], argTypes := #[dT, sT] })
    (elem : TypeId) (i : TypeInfo) (size : Nat) (hu : P.underlying dT = some (.slice elem)) (hi : P.info? elem = some i) (hsz : i.size = size)
    (d s : Option Addr) (dLen dCap sLen sCap n : Nat) (hd : a.eval dx = .slice d dLen dCap) (hs : a.eval sx = .slice s sLen sCap)
    (hn : Nat.min sLen dLen = n) (g off : Nat) (cur : Array Value) (t : TypeId) (hg : Blk w g t cur) (cs : List Value) (hl : cs.length = n * size)
    (hdst : 0 < n → d = some ⟨g, off, none⟩) (hsrc : CellsFrom w s cs) (hfit : off + cs.length ≤ cur.size) (h1 : ∀ v ∈ cs, v.oneCell' = true)
    (h : ∀ w', Blk w' g t (laidOver cur off cs) → w.grownBy w' (some g) → w'.heap.size = w.heap.size → K (a.put o.dst (goInt n)) w') : o.wp P a w K Q := by
  obtain ⟨w', hr, h2, h3, h4⟩ := run_copy_to (P := P) w dT sT o.type elem i size hu hi hsz d s dLen dCap sLen sCap n hn g off cur t hg cs hl hdst hsrc hfit h1
  unfold Oper.wp execOp
  simp only [ho, resolve, invoke, builtin, Sem.run_bind, Sem.run_pure, Result.andThen_ok, List.map_toArray, List.map_cons, List.map_nil, hd, hs, hr]
  exact h w' h2 h3 h4

theorem wpList_copy_to {ops : Array Oper} {rest : List Oper} {o : Oper} {a : Act} {Q : Exit → Act → World → Prop} (hgd : o.guard = none) (dx sx : Operand) (dT sT : TypeId)
    (ho : o.op = .call { callee := .builtin .copy, args := #[dx, sx], argTypes := #[dT, sT] })
    (elem : TypeId) (i : TypeInfo) (size : Nat) (hu : P.underlying dT = some (.slice elem)) (hi : P.info? elem = some i) (hsz : i.size = size)
    (d s : Option Addr) (dLen dCap sLen sCap n : Nat) (hd : a.eval dx = .slice d dLen dCap) (hs : a.eval sx = .slice s sLen sCap)
    (hn : Nat.min sLen dLen = n) (g off : Nat) (cur : Array Value) (t : TypeId) (hg : Blk w g t cur) (cs : List Value) (hl : cs.length = n * size)
    (hdst : 0 < n → d = some ⟨g, off, none⟩) (hsrc : CellsFrom w s cs) (hfit : off + cs.length ≤ cur.size) (h1 : ∀ v ∈ cs, v.oneCell' = true)
    (h : ∀ w', Blk w' g t (laidOver cur off cs) → w.grownBy w' (some g) → w'.heap.size = w.heap.size → wpList P ops Q rest (a.put o.dst (goInt n)) w') : wpList P ops Q (o :: rest) a w :=
  wpList_plain hgd fun _ hK => wp_copy_to w dx sx dT sT ho elem i size hu hi hsz d s dLen dCap sLen sCap n hd hs hn g off cur t hg cs hl hdst hsrc hfit h1 fun w' h2 h3 h4 => hK _ _ (h w' h2 h3 h4)

theorem step_copy_to {ops : Array Oper} {o : Oper} {a : Act} {K : Act → World → Prop} {Q : Exit → Act → World → Prop} {E : Prop} (hgd : o.guard = none) (dx sx : Operand) (dT sT : TypeId)
    (ho : o.op = .call { callee := .builtin .copy, args := #[dx, sx], argTypes := #[dT, sT] })
    (elem : TypeId) (i : TypeInfo) (size : Nat) (hu : P.underlying dT = some (.slice elem)) (hi : P.info? elem = some i) (hsz : i.size = size)
    (d s : Option Addr) (dLen dCap sLen sCap n : Nat) (hd : a.eval dx = .slice d dLen dCap) (hs : a.eval sx = .slice s sLen sCap)
    (hn : Nat.min sLen dLen = n) (g off : Nat) (cur : Array Value) (t : TypeId) (hg : Blk w g t cur) (cs : List Value) (hl : cs.length = n * size)
    (hdst : 0 < n → d = some ⟨g, off, none⟩) (hsrc : CellsFrom w s cs) (hfit : off + cs.length ≤ cur.size) (h1 : ∀ v ∈ cs, v.oneCell' = true)
    (h : ∀ w', Blk w' g t (laidOver cur off cs) → w.grownBy w' (some g) → w'.heap.size = w.heap.size → K (a.put o.dst (goInt n)) w') :
    if Region.wanted o (yielded ops a.tmps) = true then Oper.wp P o a w K Q else E := by
  have hw : Region.wanted o (yielded ops a.tmps) = true := by simp [Region.wanted, hgd]
  rw [if_pos hw]
  exact wp_copy_to w dx sx dT sT ho elem i size hu hi hsz d s dLen dCap sLen sCap n hd hs hn g off cur t hg cs hl hdst hsrc hfit h1 h

/-- 'append(v, x...)', v owned, x whatever yields its cells. -/
theorem run_append_sl (t tx ty e : TypeId) (i : TypeInfo) (z : Value) (size bytes : Nat) (ht : P.underlying t = some (.slice e)) (hi : P.info? e = some i) (hz : i.zero = some z)
    (hsize : i.size = size) (hby : i.bytes = bytes) (hzs : z.cells.size = size) (v : Value) (n : Nat) (xs : List Value) (ob : Option Nat) (hv : SlAt w e size v n xs ob)
    (x : Value) (m : Nat) (news : List Value) (hs : Src P size tx x m news w) (h63 : n + m ≤ maxLen) (hbytes : (n + m) * bytes ≤ 140737488355328) :
    ∃ v' ob' w', (Builtin.append_ #[t, tx] ty #[v, x]).run P w = .ok v' w' ∧ SlAt w' e size v' (n + m) (xs ++ news) ob' ∧ w.grownBy w' ob ∧ (ob' = ob ∨ ob' = some w.heap.size) := by
  have hnews := hs.newsLen
  subst hsize hby
  have hgrow : ∀ (base : Option Addr) (cap : Nat), v = .slice base n cap → cap < n + m → (Builtin.firstCells i.size n (.slice base n cap)).run P w.drew = .ok xs.toArray w.drew →
      ∃ v' ob' w', (Builtin.append_ #[t, tx] ty #[v, x]).run P w = .ok v' w' ∧ SlAt w' e i.size v' (n + m) (xs ++ news) ob' ∧ w.grownBy w' ob ∧ (ob' = ob ∨ ob' = some w.heap.size) := by
    intro base cap hvv hlt hold
    subst hvv
    have hr := run_append_grow_src (P := P) w t tx ty e i z ht hi hz base n cap xs hold x m news hs hlt (by unfold maxLen at h63; omega) (growslice_fits hlt hbytes)
    have hge := grownCap_ge w (n + m) cap e
    refine ⟨_, some w.heap.size, _, hr, ⟨by rw [List.length_append, hv.len, hnews, Nat.add_mul], .inr ⟨w.heap.size, 0, _, _, rfl, rfl, Blk.new_at (w := w.drew) rfl, hge, ?_, fun k y hk => ?_⟩⟩, ⟨rfl, rfl, rfl, by simp, fun k hk _ => ?_⟩, .inr rfl⟩
    · have e1 : (grownCap w (n + m) cap e - (n + m)) * i.size = grownCap w (n + m) cap e * i.size - (n + m) * i.size := Nat.sub_mul _ _ _
      have e2 : (n + m) * i.size ≤ grownCap w (n + m) cap e * i.size := Nat.mul_le_mul_right _ hge
      have e3 : (n + m) * i.size = n * i.size + m * i.size := Nat.add_mul _ _ _
      simp [size_zeroCells, hzs, hv.len, hnews]
      omega
    · rw [Nat.zero_add, Array.getElem?_append_left (by simpa using (List.getElem?_eq_some_iff.1 hk).1)]
      simpa using hk
    · exact Below.heap_alloc w.drew _ k hk
  rcases hv.2 with ⟨rfl, rfl, rfl⟩ | ⟨b, o, cap, cur, rfl, rfl, hB, hc, hsz, hx⟩
  · have hxs : xs = [] := List.eq_nil_of_length_eq_zero (by simpa using hv.len)
    by_cases hm : m = 0
    · subst hm
      have hn : news = [] := List.eq_nil_of_length_eq_zero (by simpa using hnews)
      subst hxs hn
      refine ⟨.slice none 0 0, none, w, ?_, by simpa using SlAt.nil w e i.size, ⟨rfl, rfl, rfl, Nat.le_refl _, fun _ _ _ => rfl⟩, .inl rfl⟩
      rcases hs.kind with ⟨e', hk⟩ | hk <;> simp [Builtin.append_, run_underlying ht, run_underlying hk, sizeOf, typeInfo, hi, hs.len, hs.cells]
    · subst hxs
      exact hgrow none 0 rfl (by omega) (run_firstCells_none w.drew i.size 0 0 0)
  · have hxl := hv.len
    by_cases hroom : n + m ≤ cap
    · have hmul : (n + m) * i.size ≤ cap * i.size := Nat.mul_le_mul_right _ hroom
      have hadd : (n + m) * i.size = n * i.size + m * i.size := Nat.add_mul _ _ _
      have hr := run_append_room_src (P := P) w t tx ty e i ht hi b o n cap x m news hs hroom
        (fun j hj => by rw [hB.cell, Array.getElem?_eq_getElem (by omega)]; rfl) (fun j _ => hB.frozen _)
      refine ⟨_, some b, _, hr, ⟨by rw [List.length_append, hxl, hnews, hadd], .inr ⟨b, o, cap, _, rfl, rfl, hB.setCells news _, hroom, by rw [size_laidOver]; exact hsz, fun k y hk => ?_⟩⟩, grownBy_setCells b news w _, .inl rfl⟩
      rw [get_laidOver _ _ _ _ (by omega)]
      by_cases h1 : k < xs.length
      · rw [if_neg (by omega)]
        rw [List.getElem?_append_left h1] at hk
        exact hx k y hk
      · rw [List.getElem?_append_right (by omega)] at hk
        have h2 := (List.getElem?_eq_some_iff.1 hk).1
        rw [if_pos (by omega), show o + k - (o + n * i.size) = k - xs.length by omega]
        exact hk
    · exact hgrow _ cap rfl (by omega) (run_firstCells_some w.drew i.size n _ n cap xs hxl (fun j u hj => by
        rw [Addr.add_lit]
        exact (hB.cell _).trans (hx j u hj)))

theorem wp_append_sl {o : Oper} {a : Act} {K : Act → World → Prop} {Q : Exit → Act → World → Prop} (s x : Operand) (t tx : TypeId)
    (ho : o.op = .call { callee := .builtin .append, args := #[s, x], argTypes := #[t, tx] })
    (e : TypeId) (i : TypeInfo) (z : Value) (size bytes : Nat) (ht : P.underlying t = some (.slice e)) (hi : P.info? e = some i) (hz : i.zero = some z)
    (hsize : i.size = size) (hby : i.bytes = bytes) (hzs : z.cells.size = size) (v : Value) (n : Nat) (xs : List Value) (ob : Option Nat) (hsv : a.eval s = v) (hv : SlAt w e size v n xs ob)
    (xv : Value) (m : Nat) (news : List Value) (hx : a.eval x = xv) (hs : Src P size tx xv m news w) (h63 : n + m ≤ maxLen) (hbytes : (n + m) * bytes ≤ 140737488355328)
    (h : ∀ v' ob' w', SlAt w' e size v' (n + m) (xs ++ news) ob' → w.grownBy w' ob → (ob' = ob ∨ ob' = some w.heap.size) → K (a.put o.dst v') w') : o.wp P a w K Q := by
  obtain ⟨v', ob', w', hr, h2, h3, h4⟩ := run_append_sl (P := P) w t tx o.type e i z size bytes ht hi hz hsize hby hzs v n xs ob hv xv m news hs h63 hbytes
  unfold Oper.wp execOp
  simp only [ho, resolve, invoke, builtin, Sem.run_bind, Sem.run_pure, Result.andThen_ok, List.map_toArray, List.map_cons, List.map_nil, hsv, hx, hr]
  exact h v' ob' w' h2 h3 h4

theorem wpList_append_sl {ops : Array Oper} {rest : List Oper} {o : Oper} {a : Act} {Q : Exit → Act → World → Prop} (hgd : o.guard = none) (s x : Operand) (t tx : TypeId)
    (ho : o.op = .call { callee := .builtin .append, args := #[s, x], argTypes := #[t, tx] })
    (e : TypeId) (i : TypeInfo) (z : Value) (size bytes : Nat) (ht : P.underlying t = some (.slice e)) (hi : P.info? e = some i) (hz : i.zero = some z)
    (hsize : i.size = size) (hby : i.bytes = bytes) (hzs : z.cells.size = size) (v : Value) (n : Nat) (xs : List Value) (ob : Option Nat) (hsv : a.eval s = v) (hv : SlAt w e size v n xs ob)
    (xv : Value) (m : Nat) (news : List Value) (hx : a.eval x = xv) (hs : Src P size tx xv m news w) (h63 : n + m ≤ maxLen) (hbytes : (n + m) * bytes ≤ 140737488355328)
    (h : ∀ v' ob' w', SlAt w' e size v' (n + m) (xs ++ news) ob' → w.grownBy w' ob → (ob' = ob ∨ ob' = some w.heap.size) → wpList P ops Q rest (a.put o.dst v') w') : wpList P ops Q (o :: rest) a w :=
  wpList_plain hgd fun _ hK => wp_append_sl w s x t tx ho e i z size bytes ht hi hz hsize hby hzs v n xs ob hsv hv xv m news hx hs h63 hbytes fun v' ob' w' h2 h3 h4 => hK _ _ (h v' ob' w' h2 h3 h4)

theorem step_append_sl {ops : Array Oper} {o : Oper} {a : Act} {K : Act → World → Prop} {Q : Exit → Act → World → Prop} {E : Prop} (hgd : o.guard = none) (s x : Operand) (t tx : TypeId)
    (ho : o.op = .call { callee := .builtin .append, args := #[s, x], argTypes := #[t, tx] })
    (e : TypeId) (i : TypeInfo) (z : Value) (size bytes : Nat) (ht : P.underlying t = some (.slice e)) (hi : P.info? e = some i) (hz : i.zero = some z)
    (hsize : i.size = size) (hby : i.bytes = bytes) (hzs : z.cells.size = size) (v : Value) (n : Nat) (xs : List Value) (ob : Option Nat) (hsv : a.eval s = v) (hv : SlAt w e size v n xs ob)
    (xv : Value) (m : Nat) (news : List Value) (hx : a.eval x = xv) (hs : Src P size tx xv m news w) (h63 : n + m ≤ maxLen) (hbytes : (n + m) * bytes ≤ 140737488355328)
    (h : ∀ v' ob' w', SlAt w' e size v' (n + m) (xs ++ news) ob' → w.grownBy w' ob → (ob' = ob ∨ ob' = some w.heap.size) → K (a.put o.dst v') w') :
    if Region.wanted o (yielded ops a.tmps) = true then Oper.wp P o a w K Q else E := by
  have hw : Region.wanted o (yielded ops a.tmps) = true := by simp [Region.wanted, hgd]
  rw [if_pos hw]
  exact wp_append_sl w s x t tx ho e i z size bytes ht hi hz hsize hby hzs v n xs ob hsv hv xv m news hx hs h63 hbytes h

/-- What an owned slice yields. -/
theorem SlAt.src {e t size n : Nat} {v : Value} {xs : List Value} {ob : Option Nat} {w : World} (h : SlAt w e size v n xs ob) {e' : TypeId} (hk : P.underlying t = some (.slice e')) (h1 : ∀ u ∈ xs, u.oneCell' = true) : Src P size t v n xs w := by
  rcases h.2 with ⟨rfl, rfl, rfl⟩ | ⟨b, o, cap, cur, rfl, rfl, hB, hc, hsz, hx⟩
  · have hxs : xs = [] := List.eq_nil_of_length_eq_zero (by simpa using h.len)
    subst hxs
    exact Src.ofNil w hk 0
  · exact Src.ofSlice w hk _ n cap xs h.len h.cellsAdd h1
end

end Go.Proofs.YtdbepelcgmnbbaaDoor
