/- A line is kept in the past. -/
import Derived.Test.YtdbepelcgmnbbaaDoorTake
namespace Go.Proofs.YtdbepelcgmnbbaaDoor
open Go Go.RowKit

/-- The first rows of a slice of rows go. -/
theorem RowsAt.dropped {w : World} {b o n cap d : Nat} {L : List PG.Line} {ob : Option Nat} {rb : List Nat} (h : RowsAt w (.slice (some ⟨b, o, none⟩) n cap) L ob rb) (hn : L.length = n) (hd : d ≤ n) (hc : ¬ cap = d) :
    RowsAt w (.slice (some ⟨b, o + d, none⟩) (n - d) (cap - d)) (L.drop d) ob (rb.drop d) := by
  obtain ⟨vals, hS, hl, hr⟩ := h
  rw [hn] at hS
  have h1 := hS.from hd
  rw [if_neg hc] at h1
  refine ⟨vals.drop d, by rw [List.length_drop, hn]; simpa using h1, by simp [hl], fun i l hi => ?_⟩
  rw [List.getElem?_drop] at hi
  obtain ⟨u, b', e1, e2, e3⟩ := hr (d + i) l hi
  exact ⟨u, b', by rw [List.getElem?_drop]; exact e1, by rw [List.getElem?_drop]; exact e2, e3⟩

section
variable {w w' : World} {p : Nat} {F : Nat → Prop} {g g' : PG.G} {vc vt vo vp vp' vq : Value} {bc bt bo bp bp' : Option Nat} {rc ro rp rp' : List Nat}

/-- The past is another one now; of the old blocks only the Grid's and the past's own have turned. -/
theorem GridMem.newpast (h : GridMem w p g vc vt vo vp vq bc bt bo bp rc ro rp) (hs : ∀ b, b < w.heap.size → b ≠ p → bp ≠ some b → w'.heap[b]? = w.heap[b]?)
    (hB : Blk w' p 52 (gcells g' vc vt vo vp' vq)) (hR : RowsAt w' vp' g'.past bp' rp') (e1 : g'.cells = g.cells) (e2 : g'.tabs = g.tabs) (e3 : g'.other = g.other)
    (ho : (bc.toList ++ (bo.toList ++ bp'.toList)).Nodup) (hn : (rc ++ (ro ++ rp')).Nodup) : GridMem w' p g' vc vt vo vp' vq bc bt bo bp' rc ro rp' := by
  have cross : ∀ {v v' : Value} {L L' : List PG.Line} {o1 o2 : Option Nat} {r1 r2 : List Nat}, RowsAt w v L o1 r1 → RowsAt w v' L' o2 r2 → ∀ b, o1 = some b → b ∉ r2 := by
    intro v v' L L' o1 o2 r1 r2 h1 h2 b e hb
    obtain ⟨vals, hS, _, _⟩ := h1
    subst e
    obtain ⟨R, e1, e2, hz⟩ := h2.zip
    rw [← e2] at hb
    obtain ⟨x, hx, rfl⟩ := List.mem_map.1 hb
    exact (hS.ne_ (hz.2 x hx) (by decide)) rfl
  have o1 := h.outs
  rw [List.nodup_append] at o1
  obtain ⟨_, o2, o3⟩ := o1
  rw [List.nodup_append] at o2
  obtain ⟨_, _, o4⟩ := o2
  have nc := h.cells.ne_blk h.blk (by decide) (by decide)
  have no := h.other.ne_blk h.blk (by decide) (by decide)
  have ht : ∀ b, bt = some b → b ≠ p ∧ bp ≠ some b := by
    intro b e
    have h5 := h.tabs
    rw [e] at h5
    refine ⟨h5.ne_blk h.blk (by decide), fun e' => ?_⟩
    obtain ⟨vals, hS, _, _⟩ := h.past
    rw [e'] at hS
    exact (hS.ne_ h5 (by decide)) rfl
  refine ⟨hB, ?_, ?_, ?_, hR, ho, hn⟩
  · rw [e1]
    refine h.cells.same (fun b e => hs b (h.cells.lt.1 b e) (nc.1 b e) (fun e' => o3 b (by simp [e]) b (by simp [e']) rfl)) (fun b e => hs b (h.cells.lt.2 b e) (nc.2 b e) (fun e' => cross h.past h.cells b e' e))
  · rw [e2]
    exact h.tabs.same (fun b e => hs b (h.tabs.lt b e) (ht b e).1 (ht b e).2)
  · rw [e3]
    refine h.other.same (fun b e => hs b (h.other.lt.1 b e) (no.1 b e) (fun e' => o4 b (by simp [e]) b (by simp [e']) rfl)) (fun b e => hs b (h.other.lt.2 b e) (no.2 b e) (fun e' => ?_))
    have h6 := h.other
    unfold OtherAt at h6
    cases hgo : g.other with
    | none => rw [hgo] at h6; obtain ⟨_, _, rfl⟩ := h6; cases e
    | some L => rw [hgo] at h6; exact cross h.past h6.1 b e' e
end

theorem outs_nodup {bc bo bp ob : Option Nat} {n : Nat} (h : (bc.toList ++ (bo.toList ++ bp.toList)).Nodup) (hc : ∀ b, bc = some b → b < n) (ho : ∀ b, bo = some b → b < n) (hb : ob = bp ∨ ∃ x, ob = some x ∧ n ≤ x) : (bc.toList ++ (bo.toList ++ ob.toList)).Nodup := by
  rcases hb with rfl | ⟨x, rfl, hx⟩
  · exact h
  · simp only [List.nodup_append, List.mem_append, Option.mem_toList] at h ⊢
    obtain ⟨h1, ⟨h2, h3, h4⟩, h5⟩ := h
    refine ⟨h1, ⟨h2, by simp, fun a ha b hb' => ?_⟩, fun a ha b hb' => ?_⟩
    · simp at hb'; have := ho a ha; omega
    · rcases hb' with hb' | hb'
      · exact h5 a ha b (.inl hb')
      · simp at hb'; have := hc a ha; omega

theorem rws_nodup {rc ro rp rp' : List Nat} {x n : Nat} (h : (rc ++ (ro ++ rp)).Nodup) (hs : rp'.Sublist (rp ++ [x])) (hx : ∀ b ∈ rc ++ (ro ++ rp), b < x) (_hn : n = n) : (rc ++ (ro ++ rp')).Nodup := by
  have h1 : (rc ++ (ro ++ (rp ++ [x]))).Nodup := by
    rw [← List.append_assoc ro, ← List.append_assoc rc, List.nodup_append]
    refine ⟨h, by simp, fun a ha b hb => ?_⟩
    simp at hb
    have := hx a ha
    omega
  exact (((hs.append_left ro).append_left rc)).nodup h1

/-- What keep leaves: all but the past stays where it lies. -/
def KeepPost (w : World) (p : Nat) (g' : PG.G) (vc vt vo vq : Value) (bc bt bo bp : Option Nat) (rc ro rp : List Nat) (e : Ending) (W : World) : Prop :=
  ∃ vp' bp' rp', e = .returned (.tuple #[]) ∧ GridMem W p g' vc vt vo vp' vq bc bt bo bp' rc ro rp' ∧ g'.Inv ∧ Step (fun k => k = p ∨ bp = some k) (fun k => k = p ∨ bp' = some k) w W ∧ (∀ b ∈ rp', b ∈ rp ∨ w.heap.size ≤ b)

theorem KeepPost.gpost {w W : World} {p : Nat} {F : Nat → Prop} {g' : PG.G} {vc vt vo vq : Value} {bc bt bo bp : Option Nat} {rc ro rp : List Nat} {e : Ending} (h : KeepPost w p g' vc vt vo vq bc bt bo bp rc ro rp e W)
    (hfoot : ∀ b, footG p bc bt bo bp rc ro rp b → F b) : GPost w p F g' vq e W := by
  obtain ⟨vp', bp', rp', he, hM', hI', hs, hr⟩ := h
  refine ⟨footG p bc bt bo bp' rc ro rp', he, ⟨hI', hM'.lt, _, _, _, _, _, _, _, _, _, _, _, hM', fun k hk => hk⟩, ?_⟩
  refine ⟨hs.os, hs.tape, hs.output, hs.size, fun k hk hn => hs.block k hk (fun e => hn ?_), fun k hk => ?_⟩
  · rcases e with e | e
    · exact hfoot k (.inl e)
    · exact hfoot k (by unfold footG; simp [e])
  · rcases hk with h' | h' | h' | h' | h' | h' | h' | h'
    · exact .inl (hfoot k (.inl h'))
    · exact .inl (hfoot k (.inr (.inl h')))
    · exact .inl (hfoot k (.inr (.inr (.inl h'))))
    · exact .inl (hfoot k (.inr (.inr (.inr (.inl h')))))
    · rcases hs.sub k (.inr h') with (h6 | h6) | h6
      · exact .inl (hfoot k (.inl h6))
      · exact .inl (hfoot k (by unfold footG; simp [h6]))
      · exact .inr h6
    · exact .inl (hfoot k (.inr (.inr (.inr (.inr (.inr (.inl h')))))))
    · exact .inl (hfoot k (.inr (.inr (.inr (.inr (.inr (.inr (.inl h'))))))))
    · rcases hr k h' with h6 | h6
      · exact .inl (hfoot k (.inr (.inr (.inr (.inr (.inr (.inr (.inr h6))))))))
      · exact .inr h6

theorem keep_end {w w1 w3 W : World} {p : Nat} {g g' : PG.G} {vc vt vo vp vp' vq : Value} {bc bt bo bp ob3 : Option Nat} {rc ro rp rp' : List Nat} {gb : Nat} {o : Obj}
    (hI' : g'.Inv) (hM : GridMem w p g vc vt vo vp vq bc bt bo bp rc ro rp)
    (hb1 : Below w.heap.size w w1) (hgb : w.heap.size ≤ gb) (hg3 : (w1.alloc o).grownBy w3 bp) (ho3 : ob3 = bp ∨ ob3 = some (w1.alloc o).heap.size)
    (hR' : RowsAt w3 vp' g'.past ob3 rp') (hsub : rp'.Sublist (rp ++ [gb])) (hon : On w3 W p 52 (gcells g' vc vt vo vp' vq)) (e1 : g'.cells = g.cells) (e2 : g'.tabs = g.tabs) (e3 : g'.other = g.other) :
    KeepPost w p g' vc vt vo vq bc bt bo bp rc ro rp (.returned (.tuple #[])) W := by
  have hpl := hM.blk.lt
  have hs1 := hb1.size
  have hs3 : w1.heap.size + 1 ≤ w3.heap.size := by have := hg3.size; simpa using this
  have hsW := hon.2.size
  have hkeep3 : ∀ k, k < w.heap.size → bp ≠ some k → w3.heap[k]? = w.heap[k]? := fun k hk hn =>
    (hg3.block k (by simp; omega) (fun e => hn e.symm)).trans ((Below.heap_alloc w1 o k (by omega)).trans (hb1.block k hk))
  have hkeep : ∀ k, k < w.heap.size → k ≠ p → bp ≠ some k → W.heap[k]? = w.heap[k]? := fun k hk h1 h2 => (hon.2.block k (by omega) (by intro e; cases e; exact h1 rfl)).trans (hkeep3 k hk h2)
  have hB3 : Blk w3 p 52 (gcells g vc vt vo vp vq) := hM.blk.same (hkeep3 p hpl (fun e => (hM.past.ne_blk hM.blk (by decide) (by decide)).1 p e rfl))
  have hnp := hR'.ne_blk hB3 (by decide) (by decide)
  have hRW : RowsAt W vp' g'.past ob3 rp' := hR'.same (fun b e => hon.2.block b (hR'.lt.1 b e) (by intro e'; cases e'; exact hnp.1 p e rfl)) (fun b e => hon.2.block b (hR'.lt.2 b e) (by intro e'; cases e'; exact hnp.2 p e rfl))
  have hob : ob3 = bp ∨ ∃ x, ob3 = some x ∧ w.heap.size ≤ x := by
    rcases ho3 with h | h
    · exact .inl h
    · exact .inr ⟨_, h, by simp; omega⟩
  have hlt : ∀ b ∈ rc ++ (ro ++ rp), b < gb := by
    intro b hb
    simp only [List.mem_append] at hb
    have : b < w.heap.size := by
      rcases hb with h | h | h
      · exact hM.cells.lt.2 b h
      · exact hM.other.lt.2 b h
      · exact hM.past.lt.2 b h
    omega
  have hM' : GridMem W p g' vc vt vo vp' vq bc bt bo ob3 rc ro rp' := hM.newpast hkeep hon.1 hRW e1 e2 e3 (outs_nodup hM.outs (hM.cells.lt.1) (hM.other.lt.1) hob) (rws_nodup hM.rws hsub hlt rfl (n := 0))
  refine ⟨vp', ob3, rp', rfl, hM', hI', ⟨?_, ?_, ?_, by omega, fun k hk hn => hkeep k hk (fun e => hn (.inl e)) (fun e => hn (.inr e)), fun k hk => ?_⟩, fun k h' => ?_⟩
  · rw [hon.2.os, hg3.os]; exact hb1.os
  · rw [hon.2.tape, hg3.tape]; exact hb1.tape
  · rw [hon.2.output, hg3.output]; exact hb1.output
  · rcases hk with h' | h'
    · exact .inl (.inl h')
    · rcases hob with h6 | ⟨x, h6, h7⟩
      · exact .inl (.inr (h6 ▸ h'))
      · rw [h6] at h'; cases h'; exact .inr h7
  · have := hsub.subset h'
    rcases List.mem_append.1 this with h6 | h6
    · exact .inl h6
    · simp at h6; subst h6; exact .inr hgb

set_option maxRecDepth 20000 in
set_option maxHeartbeats 4000000 in
theorem keep_mem {w : World} {p : Nat} {g : PG.G} {vc vt vo vp vq : Value} {bc bt bo bp : Option Nat} {rc ro rp : List Nat} (hI : g.Inv) (hM : GridMem w p g vc vt vo vp vq bc bt bo bp rc ro rp) (A : Option Addr) (lb cap : Nat) (l : PG.Line) (hl : SlAt w 42 4 (.slice A l.length cap) l.length (flat l) (some lb))
    (hl1 : 1 ≤ l.length ∧ l.length ≤ 120) (hl2 : ∀ c ∈ l, PG.CellOk c) :
    Calls Tryd.prog 23 #[.pointer (some ⟨p, 0, none⟩), .slice A l.length cap] w (KeepPost w p { g with past := PG.keep1 g.past l } vc vt vo vq bc bt bo bp rc ro rp) := by
  obtain ⟨i0, hi, hz0, hz1, hz2⟩ := info_parts Tryd.infoLine
  have hb := hM.blk
  have hpl := hb.lt
  have c31 := gc_past hb
  have f31 := hb.frozen 31
  have hk200 := hI.past.1
  have hbpp : bp ≠ some p := by
    intro e
    exact (hM.past.ne_blk hb (by decide) (by decide)).1 p e rfl
  obtain ⟨vals, hV, hVone, hrl, hrows⟩ := hM.past.vals_one
  obtain ⟨k, hk⟩ : ∃ k, k = g.past.length := ⟨_, rfl⟩
  rw [← hk] at hV hk200
  have HK := Lib.hid hk
  have HRL := Lib.hid hrl
  have HROWS := Lib.hid hrows
  clear hk hrl hrows
  have HL := Lib.hid hl
  clear hl
  go_enter Tryd.func23, Tryd.ntmps23
  go_wp2_with fail
  go_region_law (first
    | (go_simp; go_at_call 37; refine (cloneC_any _ lb _ _ (flat l) _ (by exact HL.out) (flat_one l) (by omega)).mono ?_; rintro e w1 ⟨u, ou, rfl, hSu, hou, hou2, hb1⟩; obtain ⟨a1, c1, rfl, _⟩ := hSu.form; have B1 := Lib.hid (Blk.below (w := w.drew) hb hb1 hpl); have k1 := gc_past B1.out; have l1 := B1.out.frozen 31; have p1 : p < w1.heap.size := Nat.lt_of_lt_of_le hpl hb1.size; have n1 := World.new_ne w1 _ k1; dsimp only)
    | (have _g := k1; refine step_append_sl _ (by rfl) (.tmp 8) (.tmp 11) 35 35 (by rfl) 40 i0 _ 1 24 Tryd.underlying35 hi hz0 hz1 hz2 rfl vp k vals bp (by go_simp) (by exact ((hV.below (w := w.drew) hb1 (hV.lt)).alloc _)) (.slice (some ⟨w1.heap.size, 0, none⟩) 1 1) 1 [.slice a1 l.length c1] (by go_simp) (by exact Src.ofSlice _ Tryd.underlying35 _ 1 1 [.slice a1 l.length c1] rfl (cell_one_new _ _ _) (by intro x hx; simp at hx; subst hx; rfl)) (by unfold maxLen; omega) (by omega) ?_; intro v3 o3 w3 hS3 hg3 ho3; have B3 := Lib.hid ((B1.out.alloc _).same (hg3.block p (by simp; omega) (fun e => hbpp e.symm))); have k3 := gc_past B3.out; have l3 := B3.out.frozen 31; obtain ⟨b2, q2, cap2, _, rfl, rfl, _, hc2, _⟩ := hS3.some_ (hS3.ob_ (by omega)); have HS3 := Lib.hid hS3; clear hS3))
  all_goals
    obtain ⟨gb, go, gc, _, hvv, rfl, _⟩ := hSu.some_ hou2
    have hgb := hou gb rfl
    have hb1' : Below w.heap.size w w1 := ⟨hb1.os, hb1.tape, hb1.output, hb1.size, hb1.block⟩
    have hRs : RowsAt w3 (.slice (some ⟨b2, q2, none⟩) (k + 1) cap2) (g.past ++ [l]) (some b2) (rp ++ [gb]) := by
      have hR1 : RowsAt (w1.alloc (.cells #[.slice a1 l.length c1] 40)) vp g.past bp rp :=
        RowsAt.same (RowsAt.below (w := w.drew) hM.past hb1 hM.past.lt.1 hM.past.lt.2) (fun b e => Below.heap_alloc _ _ _ (Nat.lt_of_lt_of_le (hM.past.lt.1 b e) hb1.size)) (fun b e => Below.heap_alloc _ _ _ (Nat.lt_of_lt_of_le (hM.past.lt.2 b e) hb1.size))
      have hV1 : SlAt (w1.alloc (.cells #[.slice a1 l.length c1] 40)) 40 1 vp g.past.length vals bp := by
        rw [← HK.out]
        exact (SlAt.below (w := w.drew) hV hb1 hV.lt).alloc _
      exact hR1.snoc hV1 (by rw [← HK.out]; exact HS3.out) hg3 (hSu.alloc _)
    have HRs := Lib.hid hRs
    clear hRs hvv
    by_cases hk2 : k < 200
    · have hlt : ¬ (200 : Int) < (k : Int) + 1 := by omega
      go_wp2
      go_end0
      have e : PG.keep1 g.past l = g.past ++ [l] := by
        unfold PG.keep1
        rw [show (g.past ++ [l]).length - 200 = 0 by have := HK.out; simp; omega, List.drop_zero]
      refine keep_end (g' := { g with past := PG.keep1 g.past l }) { hI with past := PG.keep1_ok hI.past ⟨hl1, hl2⟩ } hM hb1' hgb hg3 ho3 (by rw [e]; exact HRs.out) (List.Sublist.refl _) (on_ex ?_) rfl rfl rfl
      apply Exists.intro
      apply And.intro
      · repeat (first | with_reducible apply On.set | with_reducible apply On.drew)
        exact On.refl B3.out
      · simp [gcells]
    · have hlt : (200 : Int) < (k : Int) + 1 := by omega
      have hcap : ¬ cap2 = k + 1 - 200 := by omega
      go_wp2
      go_region
      go_end0
      have e : PG.keep1 g.past l = (g.past ++ [l]).drop (k - 199) := by
        unfold PG.keep1
        rw [show (g.past ++ [l]).length - 200 = k - 199 by have := HK.out; simp; omega]
      refine keep_end (g' := { g with past := PG.keep1 g.past l }) { hI with past := PG.keep1_ok hI.past ⟨hl1, hl2⟩ } hM hb1' hgb hg3 ho3 (by rw [e]; exact HRs.out.dropped (by have := HK.out; simp; omega) (by omega) (by omega)) (List.drop_sublist _ _) (on_ex ?_) rfl rfl rfl
      apply Exists.intro
      apply And.intro
      · repeat (first | with_reducible apply On.set | with_reducible apply On.drew)
        exact On.refl B3.out
      · simp [gcells]

end Go.Proofs.YtdbepelcgmnbbaaDoor
