/- Rows taken out of the region, and put into it. -/
import Derived.Test.YtdbepelcgmnbbaaDoorRows2
import Derived.RegionTactic
import Derived.BigRegion
import Derived.Deep.RegionHeld3
import Derived.Deep.Cut
namespace Go.Proofs.YtdbepelcgmnbbaaDoor
open Go Go.RowKit

theorem takeRows_over (L : List PG.Line) (cols row bottom n : Nat) (h1 : row ≤ bottom) (h2 : bottom < L.length) :
    over L row (((L.drop row).take (bottom + 1 - row)).drop (min n (bottom + 1 - row)) ++ PG.sheet (min n (bottom + 1 - row)) cols) = PG.takeRows L cols row bottom n := by
  unfold over PG.takeRows
  have e1 : (L.take (bottom + 1)).drop row = (L.drop row).take (bottom + 1 - row) := by rw [List.drop_take]
  have hl : ((L.drop row).take (bottom + 1 - row)).length = bottom + 1 - row := by simp; omega
  rw [e1]
  have e2 : ((L.drop row).take (bottom + 1 - row)).drop (min n (bottom + 1 - row)) = ((L.drop row).take (bottom + 1 - row)).drop n := by
    by_cases h : n ≤ bottom + 1 - row
    · rw [Nat.min_eq_left h]
    · rw [Nat.min_eq_right (by omega), List.drop_of_length_le (by omega), List.drop_of_length_le (by omega)]
  rw [e2]
  simp only [List.append_assoc, List.length_append, List.length_drop, hl, PG.sheet, List.length_replicate]
  congr 4
  omega

set_option maxRecDepth 20000 in
set_option maxHeartbeats 4000000 in
theorem take_any {w : World} {p : Nat} {F : Nat → Prop} {g : PG.G} {vq : Value} (h : GridAt w p F g vq) (row n : Nat) (hr : row ≤ g.bottom) (hn : n ≤ 100000) :
    Calls Tryd.prog 66 #[.pointer (some ⟨p, 0, none⟩), .int .i64 row, .int .i64 n] w (GPost w p F (g.take row n) vq) := by
  obtain ⟨i0, hi, hz0, hz1, hz2⟩ := info_parts Tryd.infoLine
  obtain ⟨hI, hF, vc, vt, vo, vp, bc, bt, bo, bp, rc, ro, rp, hM, hfoot⟩ := h
  have hb := hM.blk
  obtain ⟨R, eL, eb, hZ⟩ := hM.cells.zip
  have hRl : R.length = g.rows := by rw [← hI.cells.1, ← eL, List.length_map]
  have h1 := hI.bottom
  have h2 := hI.r2
  have h3 := hI.c2
  obtain ⟨b, o, cap, cur, rfl, rfl, hB, hcap, hsz, _⟩ := hZ.1.some_ (hZ.1.ob_ (by omega))
  rw [hRl] at hcap
  have c1 := gc_cols hb
  have c2 := gc_cells hb
  have c18 := gc_bottom hb
  have hne : ¬ cap = row := by omega
  have hbc : g.bottom + 1 ≤ cap := by omega
  rw [hRl] at c2
  -- the slices, ahead of the walk
  obtain ⟨len, hlen⟩ : ∃ len, len = g.bottom + 1 - row := ⟨_, rfl⟩
  obtain ⟨m, hm⟩ : ∃ m, m = min n len := ⟨_, rfl⟩
  have hmin : (if g.bottom + 1 - row < n then ((g.bottom + 1 - row : Nat) : Int) else (n : Int)) = (m : Int) := by split <;> omega
  have hm1 : m ≤ g.bottom + 1 - row := by omega
  have hS0 := hZ.1
  have hS1 : SlAt w 40 1 (.slice (some ⟨b, o + row, none⟩) len (cap - row)) len (((R.map Rw.v).drop row).take len) (some b) := by
    have := hS0.from (k := row) (by omega)
    rw [if_neg hne] at this
    simpa using this.to (k := len) (by omega)
  have hS2 : SlAt w 40 1 (.slice (if cap - row = m then some ⟨b, o + row, none⟩ else some ⟨b, o + row + m, none⟩) (len - m) (cap - row - m)) (len - m) ((((R.map Rw.v).drop row).take len).drop m) (some b) := by
    simpa using hS1.from (k := m) (by omega)
  have hone : ∀ u ∈ (((R.map Rw.v).drop row).take len).drop m, u.oneCell' = true := fun u hu => hZ.one u (List.mem_of_mem_drop (List.mem_of_mem_take (List.mem_of_mem_drop hu)))
  obtain ⟨xs, hxs⟩ : ∃ xs, xs = (((R.map Rw.v).drop row).take len).drop m := ⟨_, rfl⟩
  rw [← hxs] at hS2 hone
  obtain ⟨A, hA⟩ : ∃ A, (if cap - row = m then some (⟨b, o + row, none⟩ : Addr) else some ⟨b, o + row + m, none⟩) = A := ⟨_, rfl⟩
  rw [hlen, hA] at hS2
  have HS2 := Lib.hid hS2
  have HE := Lib.hid (And.intro hRl (And.intro hlen (And.intro hm hxs)))
  have hxl : xs.length = g.bottom + 1 - row - m := by have := HS2.out.len; omega
  have hcs : o + cap ≤ cur.size := by omega
  have hpl := hb.lt
  have hbl := hB.lt
  have hbp : b ≠ p := (hM.apart (.inl rfl)).1
  clear hS1 hS2 hRl hlen hm hxs hsz
  go_enter Tryd.func66, Tryd.ntmps66
  go_wp2
  go_region
  go_upto_region 2 with fail
  go_region_held3 (fun w' => w'.cell? ⟨p, 1, none⟩ = some (.int .i64 g.cols)) (go_keep) (first
    | (go_at_call 74; refine (cloneL_any _ b _ _ xs _ (by exact HS2.out) hone (by omega)).mono ?_; rintro e w1 ⟨u, ou, rfl, hSu, hou, hou2, hb1⟩; have k1 : w1.cell? ⟨p, 1, none⟩ = some (.int .i64 g.cols) := (hb1.cell (p := ⟨p, 1, none⟩) hpl).trans c1)
    | (go_at_call 26; refine (sheet_any m g.cols _ (by omega) (by omega)).mono ?_; rintro e w2 ⟨v2, o2, r2, rfl, hR2, ho2, hr2, hn2, hb2⟩; have k2 : w2.cell? ⟨p, 1, none⟩ = some (.int .i64 g.cols) := (hb2.cell (p := ⟨p, 1, none⟩) (World.block_lt_of_cell? w1 _ k1)).trans k1; obtain ⟨S, eS, eSb, hZ2⟩ := hR2.zip; have HSl := Lib.hid (show S.length = m by rw [← List.length_map (f := Rw.l), eS]; simp [PG.sheet]); have hSu2 : SlAt w2 40 1 u _ xs ou := hSu.below hb2 (hSu.lt); have hsrc := hZ2.1.src (P := Tryd.prog) Tryd.underlying35 hZ2.one; have HO := Lib.hid (show ∀ u ∈ xs ++ S.map Rw.v, u.oneCell' = true from fun x hx => by rcases List.mem_append.1 hx with h' | h'; exact hone x h'; exact hZ2.one x h'); have HSu2 := Lib.hid hSu2; have Hsrc := Lib.hid hsrc; clear hSu2 hsrc)
    | (refine step_append_sl _ (by rfl) (.tmp 26) (.tmp 32) 35 35 (by rfl) 40 i0 _ 1 24 Tryd.underlying35 hi hz0 hz1 hz2 rfl u _ xs ou (by go_simp) HSu2.out v2 _ (S.map Rw.v) (by go_simp) Hsrc.out (by unfold maxLen; have := HSl.out; omega) (by have := HSl.out; omega) ?_; intro v3 o3 w3 hS3 hg3 ho3; obtain ⟨a3, c3, rfl, _⟩ := hS3.form; have HS3 := Lib.hid hS3; clear hS3; have k3 : w3.cell? ⟨p, 1, none⟩ = some (.int .i64 g.cols) := (hg3.cell_far ⟨p, 1, none⟩ (World.block_lt_of_cell? w2 _ k2) (fun e => by have := hou p e.symm; have h5 := hpl; simp at this; omega)).trans k2; have q3 : Blk w3 b 40 cur := (Blk.below (Blk.below (w := w.drew.drew) hB hb1 hbl) hb2 (Blk.below (w := w.drew.drew) hB hb1 hbl).lt).same (hg3.block b (Blk.below (Blk.below (w := w.drew.drew) hB hb1 hbl) hb2 (Blk.below (w := w.drew.drew) hB hb1 hbl).lt).lt (fun e => by have := hou b e.symm; have h5 := hbl; simp at this; omega)))
    | (refine step_copy_to _ (by rfl) (.tmp 22) (.tmp 33) 35 35 (by rfl) 40 i0 1 Tryd.underlying35 hi hz1 (some ⟨b, o + row, none⟩) a3 (g.bottom + 1 - row) (cap - row) (g.bottom + 1 - row - m + S.length) c3 (g.bottom + 1 - row) (by go_simp) (by go_simp) (by have := HSl.out; show min _ _ = _; omega) b (o + row) cur 40 q3 (xs ++ S.map Rw.v) (by have := HSl.out; rw [List.length_append, List.length_map]; omega) (fun _ => rfl) HS3.out.from_ (by have := HSl.out; rw [List.length_append, List.length_map]; omega) HO.out ?_; intro w4 hB4 hg4 hs4; have HB4 := Lib.hid hB4; clear hB4; have k4 : w4.cell? ⟨p, 1, none⟩ = some (.int .i64 g.cols) := (hg4.cell_far ⟨p, 1, none⟩ (World.block_lt_of_cell? w3 _ k3) (fun e => hbp (by injection e with e; exact e.symm))).trans k3))
  all_goals go_end0
  obtain ⟨hRl, hlen, hm, hxs⟩ := HE.out
  subst hlen
  have hSl := HSl.out
  have hsz1 := hb1.size
  have hsz2 := hb2.size
  have hsz3 := hg3.size
  simp only [World.size_drew] at hsz1 hou hb1
  have hkeep : ∀ k, k < w.heap.size → k ≠ b → w4.heap[k]? = w.heap[k]? := by
    intro k hk hkb
    rw [hg4.block k (by omega) (by intro e; cases e; exact hkb rfl), hg3.block k (by omega) (fun e => by have := hou k e.symm; omega), hb2.block k (by omega)]
    exact hb1.block k hk
  have hS3c : SlAt w3 40 1 (.slice (some ⟨b, o, none⟩) R.length cap) R.length (R.map Rw.v) (some b) := by
    refine hZ.1.same fun k e => ?_
    cases e
    rw [hg3.block b (by omega) (fun e => by have := hou b e.symm; omega), hb2.block b (by omega)]
    exact hb1.block b hbl
  have hlenM : (((R.drop row).take (g.bottom + 1 - row)).drop m ++ S).length = g.bottom + 1 - row := by
    simp [hRl, hSl]; omega
  have hS4 := hS3c.laid (cs := xs ++ S.map Rw.v) q3 row (by simp [hxl, hSl, hRl]; omega) HB4.out
  have hS4' : SlAt w4 40 1 (.slice (some ⟨b, o, none⟩) R.length cap) R.length (over (R.map Rw.v) row ((((R.drop row).take (g.bottom + 1 - row)).drop m ++ S).map Rw.v)) (some b) := by
    rw [hxs] at hS4
    simpa [List.map_append, List.map_drop, List.map_take] using hS4
  have hnewS : ∀ x ∈ S, w.heap.size ≤ x.b ∧ SlAt w4 42 4 x.v x.l.length (flat x.l) (some x.b) := by
    intro x hx
    have hxb : x.b ∈ r2 := by rw [← eSb]; exact List.mem_map.2 ⟨x, hx, rfl⟩
    have hge := hr2 x.b hxb
    refine ⟨by omega, (hZ2.2 x hx).same fun k e => ?_⟩
    cases e
    have hlt := (hZ2.2 x hx).lt _ rfl
    rw [hg4.block x.b (by omega) (by intro e; cases e; omega)]
    refine hg3.block x.b hlt (fun e => ?_)
    have h5 := HSu2.out
    rw [← e] at h5
    exact ((hZ2.2 x hx).ne_ h5 (by decide)) rfl
  have hndM : ((((R.drop row).take (g.bottom + 1 - row)).drop m ++ S).map Rw.b).Nodup := by
    rw [List.map_append, List.nodup_append]
    refine ⟨?_, by rw [eSb]; exact hn2, fun a ha c hc => ?_⟩
    · have h5 : rc.Nodup := (List.nodup_append.1 hM.rws).1
      rw [← eb] at h5
      exact (((List.drop_sublist m _).trans ((List.take_sublist _ _).trans (List.drop_sublist row R))).map Rw.b).nodup h5
    · rw [eSb] at hc
      have := hr2 c hc
      obtain ⟨y, hy, rfl⟩ := List.mem_map.1 ha
      have := (hZ.2 y (List.mem_of_mem_drop (List.mem_of_mem_take (List.mem_of_mem_drop hy)))).lt _ rfl
      omega
  obtain ⟨rc', hM', hrc'⟩ := hM.relaid hZ eL eb row (g.bottom + 1 - row) (by omega) _ hlenM (fun x hx => by
    rcases List.mem_append.1 hx with h' | h'
    · exact .inl (List.mem_of_mem_drop h')
    · exact .inr (hnewS x h')) hndM hkeep hS4'
  have hfin : over g.cells row ((((R.drop row).take (g.bottom + 1 - row)).drop m ++ S).map Rw.l) = PG.takeRows g.cells g.cols row g.bottom n := by
    rw [← takeRows_over _ _ _ _ _ hr (by rw [hI.cells.1]; exact h1), ← hm, List.map_append, eS, List.map_drop, List.map_take, List.map_drop, eL]
  rw [hfin] at hM'
  have hlt' := hM'.lt
  refine ⟨footG p (some b) bt bo bp rc' ro rp, rfl, ⟨hI.take n hr, hlt', _, _, _, _, _, _, _, _, rc', _, _, hM', fun k hk => hk⟩, ?_⟩
  have hFb : F b := hfoot b (.inr (.inl rfl))
  refine ⟨?_, ?_, ?_, by omega, fun k hk hn => hkeep k hk (fun e => hn (e ▸ hFb)), fun k hk => ?_⟩
  · rw [hg4.os, hg3.os, hb2.os, hb1.os]; rfl
  · rw [hg4.tape, hg3.tape, hb2.tape, hb1.tape]; rfl
  · rw [hg4.output, hg3.output, hb2.output, hb1.output]; rfl
  · rcases hk with h' | h' | h' | h' | h' | h' | h' | h'
    · exact .inl (hfoot k (.inl h'))
    · exact .inl (hfoot k (.inr (.inl h')))
    · exact .inl (hfoot k (.inr (.inr (.inl h'))))
    · exact .inl (hfoot k (.inr (.inr (.inr (.inl h')))))
    · exact .inl (hfoot k (.inr (.inr (.inr (.inr (.inl h'))))))
    · rcases hrc' k h' with h6 | h6
      · exact .inl (hfoot k (.inr (.inr (.inr (.inr (.inr (.inl h6)))))))
      · exact .inr h6
    · exact .inl (hfoot k (.inr (.inr (.inr (.inr (.inr (.inr (.inl h'))))))))
    · exact .inl (hfoot k (.inr (.inr (.inr (.inr (.inr (.inr (.inr h'))))))))

theorem putRows_over (L : List PG.Line) (cols row bottom n : Nat) (h1 : row ≤ bottom) (h2 : bottom < L.length) :
    over L row (PG.sheet (min n (bottom + 1 - row)) cols ++ ((L.drop row).take (bottom + 1 - row)).take (bottom + 1 - row - min n (bottom + 1 - row))) = PG.putRows L cols row bottom n := by
  unfold over PG.putRows
  have e1 : (L.take (bottom + 1)).drop row = (L.drop row).take (bottom + 1 - row) := by rw [List.drop_take]
  have hl : ((L.drop row).take (bottom + 1 - row)).length = bottom + 1 - row := by simp; omega
  rw [e1]
  have e2 : bottom + 1 - row - min n (bottom + 1 - row) = bottom + 1 - row - n := by omega
  rw [e2]
  simp only [List.append_assoc, List.length_append, List.length_take, PG.sheet, List.length_replicate, hl]
  congr 4
  have : (List.drop row L).length = L.length - row := List.length_drop
  omega

set_option maxRecDepth 20000 in
set_option maxHeartbeats 4000000 in
theorem put_any {w : World} {p : Nat} {F : Nat → Prop} {g : PG.G} {vq : Value} (h : GridAt w p F g vq) (row n : Nat) (hr : row ≤ g.bottom) (hn : n ≤ 100000) :
    Calls Tryd.prog 62 #[.pointer (some ⟨p, 0, none⟩), .int .i64 row, .int .i64 n] w (GPost w p F (g.put row n) vq) := by
  obtain ⟨i0, hi, hz0, hz1, hz2⟩ := info_parts Tryd.infoLine
  obtain ⟨hI, hF, vc, vt, vo, vp, bc, bt, bo, bp, rc, ro, rp, hM, hfoot⟩ := h
  have hb := hM.blk
  obtain ⟨R, eL, eb, hZ⟩ := hM.cells.zip
  have hRl : R.length = g.rows := by rw [← hI.cells.1, ← eL, List.length_map]
  have h1 := hI.bottom
  have h2 := hI.r2
  have h3 := hI.c2
  obtain ⟨b, o, cap, cur, rfl, rfl, hB, hcap, hsz, _⟩ := hZ.1.some_ (hZ.1.ob_ (by omega))
  rw [hRl] at hcap
  have c1 := gc_cols hb
  have c2 := gc_cells hb
  have c18 := gc_bottom hb
  have hne : ¬ cap = row := by omega
  have hbc : g.bottom + 1 ≤ cap := by omega
  rw [hRl] at c2
  -- the slices, ahead of the walk
  obtain ⟨len, hlen⟩ : ∃ len, len = g.bottom + 1 - row := ⟨_, rfl⟩
  obtain ⟨m, hm⟩ : ∃ m, m = min n len := ⟨_, rfl⟩
  have hmin : (if g.bottom + 1 - row < n then ((g.bottom + 1 - row : Nat) : Int) else (n : Int)) = (m : Int) := by split <;> omega
  have hm1 : m ≤ g.bottom + 1 - row := by omega
  have hS0 := hZ.1
  have hS1 : SlAt w 40 1 (.slice (some ⟨b, o + row, none⟩) len (cap - row)) len (((R.map Rw.v).drop row).take len) (some b) := by
    have := hS0.from (k := row) (by omega)
    rw [if_neg hne] at this
    simpa using this.to (k := len) (by omega)
  have hS2 : SlAt w 40 1 (.slice (some ⟨b, o + row, none⟩) (len - m) (cap - row)) (len - m) ((((R.map Rw.v).drop row).take len).take (len - m)) (some b) := by
    simpa using hS1.to (k := len - m) (by omega)
  have hone : ∀ u ∈ (((R.map Rw.v).drop row).take len).take (len - m), u.oneCell' = true := fun u hu => hZ.one u (List.mem_of_mem_drop (List.mem_of_mem_take (List.mem_of_mem_take hu)))
  obtain ⟨xs, hxs⟩ : ∃ xs, xs = (((R.map Rw.v).drop row).take len).take (len - m) := ⟨_, rfl⟩
  rw [← hxs] at hS2 hone
  rw [hlen] at hS2
  have hw : IntKind.i64.wrap (((g.bottom + 1 - row : Nat) : Int) - (m : Int)) = ((g.bottom + 1 - row - m : Nat) : Int) := by rw [IntWalk.i64_in _ (by omega)]; omega
  have HS2 := Lib.hid hS2
  have HE := Lib.hid (And.intro hRl (And.intro hlen (And.intro hm hxs)))
  have hxl : xs.length = g.bottom + 1 - row - m := by have := HS2.out.len; omega
  have hcs : o + cap ≤ cur.size := by omega
  have hpl := hb.lt
  have hbl := hB.lt
  have hbp : b ≠ p := (hM.apart (.inl rfl)).1
  have hbd : g.bottom + 1 ≤ cap - row + m + row := by omega
  clear hS1 hS2 hRl hlen hm hxs hsz
  go_enter Tryd.func62, Tryd.ntmps62
  go_wp2
  go_region
  go_upto_region 2 with fail
  go_region_held3 (fun w' => w'.cell? ⟨p, 1, none⟩ = some (.int .i64 g.cols)) (go_keep) (first
    | (go_at_call 26; refine (sheet_any m g.cols _ (by omega) (by omega)).mono ?_; rintro e w1 ⟨v2, o2, r2, rfl, hR2, ho2, hr2, hn2, hb1⟩; have k1 : w1.cell? ⟨p, 1, none⟩ = some (.int .i64 g.cols) := (hb1.cell (p := ⟨p, 1, none⟩) hpl).trans c1; obtain ⟨S, eS, eSb, hZ2⟩ := hR2.zip; have HSl := Lib.hid (show S.length = m by rw [← List.length_map (f := Rw.l), eS]; simp [PG.sheet]); have Hsrc := Lib.hid ((SlAt.below (w := w.drew.drew) HS2.out hb1 (fun k e => by cases e; exact hbl)).src (P := Tryd.prog) Tryd.underlying35 hone); have HO := Lib.hid (show ∀ u ∈ S.map Rw.v ++ xs, u.oneCell' = true from fun x hx => by rcases List.mem_append.1 hx with h' | h'; exact hZ2.one x h'; exact hone x h'))
    | (refine step_append_sl _ (by rfl) (.tmp 28) (.tmp 34) 35 35 (by rfl) 40 i0 _ 1 24 Tryd.underlying35 hi hz0 hz1 hz2 rfl v2 _ (S.map Rw.v) o2 (by go_simp) hZ2.1 (.slice (some ⟨b, o + row, none⟩) (g.bottom + 1 - row - m) (cap - row)) _ xs (by go_simp) Hsrc.out (by unfold maxLen; have := HSl.out; omega) (by have := HSl.out; omega) ?_; intro v3 o3 w3 hS3 hg3 ho3; obtain ⟨a3, c3, rfl, _⟩ := hS3.form; have HS3 := Lib.hid hS3; clear hS3; have k3 : w3.cell? ⟨p, 1, none⟩ = some (.int .i64 g.cols) := (hg3.cell_far ⟨p, 1, none⟩ (World.block_lt_of_cell? w1 _ k1) (fun e => by have := ho2 p e.symm; have h5 := hpl; simp at this; omega)).trans k1; have q3 : Blk w3 b 40 cur := (Blk.below (w := w.drew.drew) hB hb1 hbl).same (hg3.block b (Blk.below (w := w.drew.drew) hB hb1 hbl).lt (fun e => by have := ho2 b e.symm; have h5 := hbl; simp at this; omega)))
    | (refine step_copy_to _ (by rfl) (.tmp 22) (.tmp 35) 35 35 (by rfl) 40 i0 1 Tryd.underlying35 hi hz1 (some ⟨b, o + row, none⟩) a3 (g.bottom + 1 - row) (cap - row) (S.length + (g.bottom + 1 - row - m)) c3 (g.bottom + 1 - row) (by go_simp) (by go_simp) (by have := HSl.out; show min _ _ = _; omega) b (o + row) cur 40 q3 (S.map Rw.v ++ xs) (by have := HSl.out; rw [List.length_append, List.length_map]; omega) (fun _ => rfl) HS3.out.from_ (by have := HSl.out; rw [List.length_append, List.length_map]; omega) HO.out ?_; intro w4 hB4 hg4 hs4; have HB4 := Lib.hid hB4; clear hB4; have k4 : w4.cell? ⟨p, 1, none⟩ = some (.int .i64 g.cols) := (hg4.cell_far ⟨p, 1, none⟩ (World.block_lt_of_cell? w3 _ k3) (fun e => hbp (by injection e with e; exact e.symm))).trans k3))
  all_goals go_end0
  obtain ⟨hRl, hlen, hm, hxs⟩ := HE.out
  subst hlen
  have hSl := HSl.out
  have hsz1 := hb1.size
  have hsz3 := hg3.size
  simp only [World.size_drew] at hsz1 ho2 hr2 hb1
  have hkeep : ∀ k, k < w.heap.size → k ≠ b → w4.heap[k]? = w.heap[k]? := by
    intro k hk hkb
    rw [hg4.block k (by omega) (by intro e; cases e; exact hkb rfl), hg3.block k (by omega) (fun e => by have := ho2 k e.symm; omega)]
    exact hb1.block k hk
  have hS3c : SlAt w3 40 1 (.slice (some ⟨b, o, none⟩) R.length cap) R.length (R.map Rw.v) (some b) := by
    refine hZ.1.same fun k e => ?_
    cases e
    rw [hg3.block b (by omega) (fun e => by have := ho2 b e.symm; omega)]
    exact hb1.block b hbl
  have hlenM : (S ++ ((R.drop row).take (g.bottom + 1 - row)).take (g.bottom + 1 - row - m)).length = g.bottom + 1 - row := by
    simp [hRl, hSl]; omega
  have hS4 := hS3c.laid (cs := S.map Rw.v ++ xs) q3 row (by simp [hxl, hSl, hRl]; omega) HB4.out
  have hS4' : SlAt w4 40 1 (.slice (some ⟨b, o, none⟩) R.length cap) R.length (over (R.map Rw.v) row ((S ++ ((R.drop row).take (g.bottom + 1 - row)).take (g.bottom + 1 - row - m)).map Rw.v)) (some b) := by
    rw [hxs] at hS4
    simpa [List.map_append, List.map_drop, List.map_take] using hS4
  have hnewS : ∀ x ∈ S, w.heap.size ≤ x.b ∧ SlAt w4 42 4 x.v x.l.length (flat x.l) (some x.b) := by
    intro x hx
    have hxb : x.b ∈ r2 := by rw [← eSb]; exact List.mem_map.2 ⟨x, hx, rfl⟩
    have hge := hr2 x.b hxb
    refine ⟨by omega, (hZ2.2 x hx).same fun k e => ?_⟩
    cases e
    have hlt := (hZ2.2 x hx).lt _ rfl
    rw [hg4.block x.b (by omega) (by intro e; cases e; omega)]
    refine hg3.block x.b hlt (fun e => ?_)
    have h5 := hZ2.1
    rw [← e] at h5
    exact ((hZ2.2 x hx).ne_ h5 (by decide)) rfl
  have hndM : ((S ++ ((R.drop row).take (g.bottom + 1 - row)).take (g.bottom + 1 - row - m)).map Rw.b).Nodup := by
    rw [List.map_append, List.nodup_append]
    refine ⟨by rw [eSb]; exact hn2, ?_, fun a ha c hc => ?_⟩
    · have h5 : rc.Nodup := (List.nodup_append.1 hM.rws).1
      rw [← eb] at h5
      exact (((List.take_sublist _ _).trans ((List.take_sublist _ _).trans (List.drop_sublist row R))).map Rw.b).nodup h5
    · rw [eSb] at ha
      have := hr2 a ha
      obtain ⟨y, hy, rfl⟩ := List.mem_map.1 hc
      have := (hZ.2 y (List.mem_of_mem_drop (List.mem_of_mem_take (List.mem_of_mem_take hy)))).lt _ rfl
      omega
  obtain ⟨rc', hM', hrc'⟩ := hM.relaid hZ eL eb row (g.bottom + 1 - row) (by omega) _ hlenM (fun x hx => by
    rcases List.mem_append.1 hx with h' | h'
    · exact .inr (hnewS x h')
    · exact .inl (List.mem_of_mem_take h')) hndM hkeep hS4'
  have hfin : over g.cells row ((S ++ ((R.drop row).take (g.bottom + 1 - row)).take (g.bottom + 1 - row - m)).map Rw.l) = PG.putRows g.cells g.cols row g.bottom n := by
    rw [← putRows_over _ _ _ _ _ hr (by rw [hI.cells.1]; exact h1), ← hm, List.map_append, eS, List.map_take, List.map_take, List.map_drop, eL]
  rw [hfin] at hM'
  have hlt' := hM'.lt
  refine ⟨footG p (some b) bt bo bp rc' ro rp, rfl, ⟨hI.put n hr, hlt', _, _, _, _, _, _, _, _, rc', _, _, hM', fun k hk => hk⟩, ?_⟩
  have hFb : F b := hfoot b (.inr (.inl rfl))
  refine ⟨?_, ?_, ?_, by omega, fun k hk hn => hkeep k hk (fun e => hn (e ▸ hFb)), fun k hk => ?_⟩
  · rw [hg4.os, hg3.os, hb1.os]; rfl
  · rw [hg4.tape, hg3.tape, hb1.tape]; rfl
  · rw [hg4.output, hg3.output, hb1.output]; rfl
  · rcases hk with h' | h' | h' | h' | h' | h' | h' | h'
    · exact .inl (hfoot k (.inl h'))
    · exact .inl (hfoot k (.inr (.inl h')))
    · exact .inl (hfoot k (.inr (.inr (.inl h'))))
    · exact .inl (hfoot k (.inr (.inr (.inr (.inl h')))))
    · exact .inl (hfoot k (.inr (.inr (.inr (.inr (.inl h'))))))
    · rcases hrc' k h' with h6 | h6
      · exact .inl (hfoot k (.inr (.inr (.inr (.inr (.inr (.inl h6)))))))
      · exact .inr h6
    · exact .inl (hfoot k (.inr (.inr (.inr (.inr (.inr (.inr (.inl h'))))))))
    · exact .inl (hfoot k (.inr (.inr (.inr (.inr (.inr (.inr (.inr h'))))))))

end Go.Proofs.YtdbepelcgmnbbaaDoor
