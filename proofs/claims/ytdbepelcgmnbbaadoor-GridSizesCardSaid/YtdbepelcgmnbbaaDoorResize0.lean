/- A line is kept, whatever the rest of the grid; new cells are laid. -/
import Derived.Test.YtdbepelcgmnbbaaDoorFit
import Derived.Test.YtdbepelcgmnbbaaDoorAlt
namespace Go.Proofs.YtdbepelcgmnbbaaDoor
open Go Go.RowKit

/-- What keep leaves, with nothing said of the grid's shape. -/
def KeepRaw (w : World) (p : Nat) (g' : PG.G) (vc vt vo vq : Value) (bc bt bo bp : Option Nat) (rc ro rp : List Nat) (e : Ending) (W : World) : Prop :=
  ∃ vp' bp' rp', e = .returned (.tuple #[]) ∧ GridMem W p g' vc vt vo vp' vq bc bt bo bp' rc ro rp' ∧ Step (fun k => k = p ∨ bp = some k) (fun k => k = p ∨ bp' = some k) w W ∧ (∀ b ∈ rp', b ∈ rp ∨ w.heap.size ≤ b)

theorem keep_endR {w w1 w3 W : World} {p : Nat} {g g' : PG.G} {vc vt vo vp vp' vq : Value} {bc bt bo bp ob3 : Option Nat} {rc ro rp rp' : List Nat} {gb : Nat} {o : Obj}
    (hM : GridMem w p g vc vt vo vp vq bc bt bo bp rc ro rp)
    (hb1 : Below w.heap.size w w1) (hgb : w.heap.size ≤ gb) (hg3 : (w1.alloc o).grownBy w3 bp) (ho3 : ob3 = bp ∨ ob3 = some (w1.alloc o).heap.size)
    (hR' : RowsAt w3 vp' g'.past ob3 rp') (hsub : rp'.Sublist (rp ++ [gb])) (hon : On w3 W p 52 (gcells g' vc vt vo vp' vq)) (e1 : g'.cells = g.cells) (e2 : g'.tabs = g.tabs) (e3 : g'.other = g.other) :
    KeepRaw w p g' vc vt vo vq bc bt bo bp rc ro rp (.returned (.tuple #[])) W := by
  have hpl := hM.blk.lt
  have hs1 := hb1.size
  have hs3 : w1.heap.size + 1 ≤ w3.heap.size := by have := hg3.size; simpa using this
  have hsW := hon.2.size
  have hkeep3 : ∀ k, k < w.heap.size → bp ≠ some k → w3.heap[k]? = w.heap[k]? := fun k hk hn =>
    (hg3.block k (by simp; omega) (fun e => hn e.symm)).trans ((Below.heap_alloc w1 o k (by omega)).trans (hb1.block k hk))
  have hkeep : ∀ k, k < w.heap.size → k ≠ p → bp ≠ some k → W.heap[k]? = w.heap[k]? := fun k hk h1 h2 => (hon.2.block k (by omega) (by intro e; cases e; exact h1 rfl)).trans (hkeep3 k hk h2)
  have hB3 : Blk w3 p 52 (gcells g vc vt vo vp vq) := hM.blk.same (hkeep3 p hpl (fun e => (hM.past.ne_blk hM.blk (by decide) (by decide)).1 p e rfl))
  have hnp := hR'.ne_blk hB3 (by decide) (by decide)
  have hRW : RowsAt W vp' g'.past ob3 rp' := hR'.same (fun b e => hon.2.block b (hR'.lt.1 b e) (by intro e'; cases e'; exact hnp.1 p e rfl)) (fun b e => hon.2.block b (hR'.lt.2 b e) (by intro e'; cases e'; exact hnp.2 p e rfl))
  have hob : ob3 = bp ∨ ∃ x, ob3 = some x ∧ w.heap.size ≤ x := by
    rcases ho3 with h | h
    · exact .inl h
    · exact .inr ⟨_, h, by simp; omega⟩
  have hlt : ∀ b ∈ rc ++ (ro ++ rp), b < gb := by
    intro b hb
    simp only [List.mem_append] at hb
    have : b < w.heap.size := by
      rcases hb with h | h | h
      · exact hM.cells.lt.2 b h
      · exact hM.other.lt.2 b h
      · exact hM.past.lt.2 b h
    omega
  have hM' : GridMem W p g' vc vt vo vp' vq bc bt bo ob3 rc ro rp' := hM.newpast hkeep hon.1 hRW e1 e2 e3 (outs_nodup hM.outs (hM.cells.lt.1) (hM.other.lt.1) hob) (rws_nodup hM.rws hsub hlt rfl (n := 0))
  refine ⟨vp', ob3, rp', rfl, hM', ⟨?_, ?_, ?_, by omega, fun k hk hn => hkeep k hk (fun e => hn (.inl e)) (fun e => hn (.inr e)), fun k hk => ?_⟩, fun k h' => ?_⟩
  · rw [hon.2.os, hg3.os]; exact hb1.os
  · rw [hon.2.tape, hg3.tape]; exact hb1.tape
  · rw [hon.2.output, hg3.output]; exact hb1.output
  · rcases hk with h' | h'
    · exact .inl (.inl h')
    · rcases hob with h6 | ⟨x, h6, h7⟩
      · exact .inl (.inr (h6 ▸ h'))
      · rw [h6] at h'; cases h'; exact .inr h7
  · have := hsub.subset h'
    rcases List.mem_append.1 this with h6 | h6
    · exact .inl h6
    · simp at h6; subst h6; exact .inr hgb

set_option maxRecDepth 20000 in
set_option maxHeartbeats 4000000 in
theorem keep_raw {w : World} {p : Nat} {g : PG.G} {vc vt vo vp vq : Value} {bc bt bo bp : Option Nat} {rc ro rp : List Nat} (hok : PG.PastOk g.past) (hM : GridMem w p g vc vt vo vp vq bc bt bo bp rc ro rp) (A : Option Addr) (lb cap : Nat) (l : PG.Line) (hl : SlAt w 42 4 (.slice A l.length cap) l.length (flat l) (some lb))
    (hl1 : 1 ≤ l.length ∧ l.length ≤ 120) :
    Calls Tryd.prog 23 #[.pointer (some ⟨p, 0, none⟩), .slice A l.length cap] w (KeepRaw w p { g with past := PG.keep1 g.past l } vc vt vo vq bc bt bo bp rc ro rp) := by
  obtain ⟨i0, hi, hz0, hz1, hz2⟩ := info_parts Tryd.infoLine
  have hb := hM.blk
  have hpl := hb.lt
  have c31 := gc_past hb
  have f31 := hb.frozen 31
  have hk200 := hok.1
  have hbpp : bp ≠ some p := by
    intro e
    exact (hM.past.ne_blk hb (by decide) (by decide)).1 p e rfl
  obtain ⟨vals, hV, hVone, hrl, hrows⟩ := hM.past.vals_one
  obtain ⟨k, hk⟩ : ∃ k, k = g.past.length := ⟨_, rfl⟩
  rw [← hk] at hV hk200
  have HK := Lib.hid hk
  have HRL := Lib.hid hrl
  have HROWS := Lib.hid hrows
  clear hk hrl hrows
  have HL := Lib.hid hl
  clear hl
  go_enter Tryd.func23, Tryd.ntmps23
  go_wp2_with fail
  go_region_law (first
    | (go_simp; go_at_call 37; refine (cloneC_any _ lb _ _ (flat l) _ (by exact HL.out) (flat_one l) (by omega)).mono ?_; rintro e w1 ⟨u, ou, rfl, hSu, hou, hou2, hb1⟩; obtain ⟨a1, c1, rfl, _⟩ := hSu.form; have B1 := Lib.hid (Blk.below (w := w.drew) hb hb1 hpl); have k1 := gc_past B1.out; have l1 := B1.out.frozen 31; have p1 : p < w1.heap.size := Nat.lt_of_lt_of_le hpl hb1.size; have n1 := World.new_ne w1 _ k1; dsimp only)
    | (have _g := k1; refine step_append_sl _ (by rfl) (.tmp 8) (.tmp 11) 35 35 (by rfl) 40 i0 _ 1 24 Tryd.underlying35 hi hz0 hz1 hz2 rfl vp k vals bp (by go_simp) (by exact ((hV.below (w := w.drew) hb1 (hV.lt)).alloc _)) (.slice (some ⟨w1.heap.size, 0, none⟩) 1 1) 1 [.slice a1 l.length c1] (by go_simp) (by exact Src.ofSlice _ Tryd.underlying35 _ 1 1 [.slice a1 l.length c1] rfl (cell_one_new _ _ _) (by intro x hx; simp at hx; subst hx; rfl)) (by unfold maxLen; omega) (by omega) ?_; intro v3 o3 w3 hS3 hg3 ho3; have B3 := Lib.hid ((B1.out.alloc _).same (hg3.block p (by simp; omega) (fun e => hbpp e.symm))); have k3 := gc_past B3.out; have l3 := B3.out.frozen 31; obtain ⟨b2, q2, cap2, _, rfl, rfl, _, hc2, _⟩ := hS3.some_ (hS3.ob_ (by omega)); have HS3 := Lib.hid hS3; clear hS3))
  all_goals
    obtain ⟨gb, go, gc, _, hvv, rfl, _⟩ := hSu.some_ hou2
    have hgb := hou gb rfl
    have hb1' : Below w.heap.size w w1 := ⟨hb1.os, hb1.tape, hb1.output, hb1.size, hb1.block⟩
    have hRs : RowsAt w3 (.slice (some ⟨b2, q2, none⟩) (k + 1) cap2) (g.past ++ [l]) (some b2) (rp ++ [gb]) := by
      have hR1 : RowsAt (w1.alloc (.cells #[.slice a1 l.length c1] 40)) vp g.past bp rp :=
        RowsAt.same (RowsAt.below (w := w.drew) hM.past hb1 hM.past.lt.1 hM.past.lt.2) (fun b e => Below.heap_alloc _ _ _ (Nat.lt_of_lt_of_le (hM.past.lt.1 b e) hb1.size)) (fun b e => Below.heap_alloc _ _ _ (Nat.lt_of_lt_of_le (hM.past.lt.2 b e) hb1.size))
      have hV1 : SlAt (w1.alloc (.cells #[.slice a1 l.length c1] 40)) 40 1 vp g.past.length vals bp := by
        rw [← HK.out]
        exact (SlAt.below (w := w.drew) hV hb1 hV.lt).alloc _
      exact hR1.snoc hV1 (by rw [← HK.out]; exact HS3.out) hg3 (hSu.alloc _)
    have HRs := Lib.hid hRs
    clear hRs hvv
    by_cases hk2 : k < 200
    · have hlt : ¬ (200 : Int) < (k : Int) + 1 := by omega
      go_wp2
      go_end0
      have e : PG.keep1 g.past l = g.past ++ [l] := by
        unfold PG.keep1
        rw [show (g.past ++ [l]).length - 200 = 0 by have := HK.out; simp; omega, List.drop_zero]
      refine keep_endR (g' := { g with past := PG.keep1 g.past l }) hM hb1' hgb hg3 ho3 (by rw [e]; exact HRs.out) (List.Sublist.refl _) (on_ex ?_) rfl rfl rfl
      apply Exists.intro
      apply And.intro
      · repeat (first | with_reducible apply On.set | with_reducible apply On.drew)
        exact On.refl B3.out
      · simp [gcells]
    · have hlt : (200 : Int) < (k : Int) + 1 := by omega
      have hcap : ¬ cap2 = k + 1 - 200 := by omega
      go_wp2
      go_region
      go_end0
      have e : PG.keep1 g.past l = (g.past ++ [l]).drop (k - 199) := by
        unfold PG.keep1
        rw [show (g.past ++ [l]).length - 200 = k - 199 by have := HK.out; simp; omega]
      refine keep_endR (g' := { g with past := PG.keep1 g.past l }) hM hb1' hgb hg3 ho3 (by rw [e]; exact HRs.out.dropped (by have := HK.out; simp; omega) (by omega) (by omega)) (List.drop_sublist _ _) (on_ex ?_) rfl rfl rfl
      apply Exists.intro
      apply And.intro
      · repeat (first | with_reducible apply On.set | with_reducible apply On.drew)
        exact On.refl B3.out
      · simp [gcells]

section
variable {w w' : World} {p : Nat} {g g' : PG.G} {vc vt vo vp vq v2 : Value} {bc bt bo bp o2 : Option Nat} {rc ro rp r2 : List Nat}
/-- The cells are others, in other memory. -/
theorem GridMem.putcells (h : GridMem w p g vc vt vo vp vq bc bt bo bp rc ro rp) (hon : On w w' p 52 (gcells g' v2 vt vo vp vq)) (hR : RowsAt w v2 g'.cells o2 r2) (hn : r2.Nodup) (hdr : ∀ b ∈ r2, b ∉ ro ∧ b ∉ rp) (hdo : ∀ b, o2 = some b → bo ≠ some b ∧ bp ≠ some b)
    (e2 : g'.tabs = g.tabs) (e3 : g'.other = g.other) (e4 : g'.past = g.past) : GridMem w' p g' v2 vt vo vp vq o2 bt bo bp r2 ro rp := by
  have keep : ∀ b, b < w.heap.size → b ≠ p → w'.heap[b]? = w.heap[b]? := fun b hb hn => hon.2.block b hb (fun e => hn (Option.some.inj e))
  have nc := hR.ne_blk h.blk (by decide) (by decide)
  have no := h.other.ne_blk h.blk (by decide) (by decide)
  have np := h.past.ne_blk h.blk (by decide) (by decide)
  refine ⟨hon.1, hR.same (fun b e => keep b (hR.lt.1 b e) (nc.1 b e)) (fun b e => keep b (hR.lt.2 b e) (nc.2 b e)), ?_, ?_, ?_, ?_, ?_⟩
  · rw [e2]; exact h.tabs.same (fun b e => keep b (h.tabs.lt b e) (by have ht := h.tabs; rw [e] at ht; exact ht.ne_blk h.blk (by decide)))
  · rw [e3]; exact h.other.same (fun b e => keep b (h.other.lt.1 b e) (no.1 b e)) (fun b e => keep b (h.other.lt.2 b e) (no.2 b e))
  · rw [e4]; exact h.past.same (fun b e => keep b (h.past.lt.1 b e) (np.1 b e)) (fun b e => keep b (h.past.lt.2 b e) (np.2 b e))
  · have ho := h.outs
    rw [List.nodup_append] at ho ⊢
    refine ⟨by cases o2 <;> simp, ho.2.1, fun a ha b hb e => ?_⟩
    subst e
    have h8 := hdo a (by simpa using ha)
    rcases List.mem_append.1 hb with hb | hb
    · exact h8.1 (by simpa using hb)
    · exact h8.2 (by simpa using hb)
  · have hr := h.rws
    rw [List.nodup_append] at hr ⊢
    refine ⟨hn, hr.2.1, fun a ha b hb e => ?_⟩
    subst e
    rcases List.mem_append.1 hb with hb | hb
    · exact (hdr a ha).1 hb
    · exact (hdr a ha).2 hb
/-- The cells put away are others, in other memory. -/
theorem GridMem.putother {L : List PG.Line} (h : GridMem w p g vc vt vo vp vq bc bt bo bp rc ro rp) (hon : On w w' p 52 (gcells g' vc vt v2 vp vq)) (e3 : g'.other = some L) (hR : RowsAt w v2 L o2 r2) (hne : o2 ≠ none) (hn : r2.Nodup) (hdr : ∀ b ∈ r2, b ∉ rc ∧ b ∉ rp) (hdo : ∀ b, o2 = some b → bc ≠ some b ∧ bp ≠ some b)
    (e1 : g'.cells = g.cells) (e2 : g'.tabs = g.tabs) (e4 : g'.past = g.past) : GridMem w' p g' vc vt v2 vp vq bc bt o2 bp rc r2 rp := by
  have keep : ∀ b, b < w.heap.size → b ≠ p → w'.heap[b]? = w.heap[b]? := fun b hb hn => hon.2.block b hb (fun e => hn (Option.some.inj e))
  have n2 := hR.ne_blk h.blk (by decide) (by decide)
  have nc := h.cells.ne_blk h.blk (by decide) (by decide)
  have np := h.past.ne_blk h.blk (by decide) (by decide)
  refine ⟨hon.1, ?_, ?_, ?_, ?_, ?_, ?_⟩
  · rw [e1]; exact h.cells.same (fun b e => keep b (h.cells.lt.1 b e) (nc.1 b e)) (fun b e => keep b (h.cells.lt.2 b e) (nc.2 b e))
  · rw [e2]; exact h.tabs.same (fun b e => keep b (h.tabs.lt b e) (by have ht := h.tabs; rw [e] at ht; exact ht.ne_blk h.blk (by decide)))
  · unfold OtherAt
    rw [e3]
    exact ⟨hR.same (fun b e => keep b (hR.lt.1 b e) (n2.1 b e)) (fun b e => keep b (hR.lt.2 b e) (n2.2 b e)), hne⟩
  · rw [e4]; exact h.past.same (fun b e => keep b (h.past.lt.1 b e) (np.1 b e)) (fun b e => keep b (h.past.lt.2 b e) (np.2 b e))
  · have ho := h.outs
    simp only [List.nodup_append, List.mem_append, Option.mem_toList] at ho ⊢
    obtain ⟨h1, ⟨h2, h3, h4⟩, h5⟩ := ho
    refine ⟨h1, ⟨by cases o2 <;> simp, h3, fun a ha b hb e => ?_⟩, fun a ha b hb e => ?_⟩
    · subst e; exact (hdo a ha).2 hb
    · subst e
      rcases hb with hb | hb
      · exact (hdo a hb).1 ha
      · exact h5 a ha a (.inr hb) rfl
  · have hr := h.rws
    simp only [List.nodup_append, List.mem_append] at hr ⊢
    obtain ⟨h1, ⟨h2, h3, h4⟩, h5⟩ := hr
    refine ⟨h1, ⟨hn, h3, fun a ha b hb e => ?_⟩, fun a ha b hb e => ?_⟩
    · subst e; exact (hdr a ha).2 hb
    · subst e
      rcases hb with hb | hb
      · exact (hdr a hb).1 ha
      · exact h5 a ha a (.inr hb) rfl
end

end Go.Proofs.YtdbepelcgmnbbaaDoor
