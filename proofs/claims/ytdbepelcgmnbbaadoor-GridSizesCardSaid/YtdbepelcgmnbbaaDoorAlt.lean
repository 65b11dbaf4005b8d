/- The other screen. -/
import Derived.Test.YtdbepelcgmnbbaaDoorPrint
namespace Go.Proofs.YtdbepelcgmnbbaaDoor
open Go Go.RowKit

theorem run_neq_nil {P : Program} (w : World) (t e : TypeId) (a : Option Addr) (n c n' c' : Nat) (h : P.underlying t = some (.slice e)) :
    (binOp .neq t (.slice a n c) (.slice none n' c')).run P w = .ok (.bool (!a.isNone)) w := by
  simp only [binOp]
  simp [Op.equal, Op.maxDepth, Lib.run_equalIn_slice_nil w 9999 t e a n c n' c' h]


theorem gpost_mem {w w' : World} {p : Nat} {F : Nat → Prop} {g' : PG.G} {vc vt vo vp vq : Value} {bc bt bo bp : Option Nat} {rc ro rp : List Nat} (hI' : g'.Inv) (hM : GridMem w' p g' vc vt vo vp vq bc bt bo bp rc ro rp) (hs : Step F F w w')
    (hsub : ∀ b, footG p bc bt bo bp rc ro rp b → F b ∨ w.heap.size ≤ b) : GPost w p F g' vq (.returned (.tuple #[])) w' :=
  ⟨footG p bc bt bo bp rc ro rp, rfl, ⟨hI', hM.lt, vc, vt, vo, vp, _, _, _, _, _, _, _, hM, fun _ h => h⟩, hs.sub' hsub⟩

theorem neq_nil_lines {v : Value} {w : World} {o : Option (List PG.Line)} {ob : Option Nat} {rb : List Nat} (h : OtherAt w v o ob rb) (W : World) : (binOp .neq 35 v (.slice none 0 0)).run Tryd.prog W = .ok (.bool o.isSome) W := by
  unfold OtherAt at h
  cases o with
  | none => obtain ⟨rfl, _, _⟩ := h; simpa using run_neq_nil (P := Tryd.prog) W 35 40 none 0 0 0 0 Tryd.underlying35
  | some L =>
    obtain ⟨⟨vals, hS, _⟩, hne⟩ := h
    obtain ⟨b, o, c, cur, rfl, _⟩ := hS.some_ hne
    simpa using run_neq_nil (P := Tryd.prog) W 35 40 (some ⟨b, o, none⟩) L.length c 0 0 Tryd.underlying35

section
variable {w w' : World} {p : Nat} {g g' : PG.G} {vc vt vo vp vq : Value} {bc bt bo bp : Option Nat} {rc ro rp : List Nat}

/-- The cells are put away, blank ones are laid. -/
theorem GridMem.toAway (h : GridMem w p g vc vt vo vp vq bc bt bo bp rc ro rp) (ho : g.other = none) {v : Value} {b2 : Option Nat} {r2 : List Nat} (hon : On w w' p 52 (gcells g' v vt vc vp vq)) (hR : RowsAt w' v g'.cells b2 r2)
    (hb2 : ∀ b, b2 = some b → w.heap.size ≤ b) (hr2 : ∀ b ∈ r2, w.heap.size ≤ b) (hn : r2.Nodup) (hne : bc ≠ none) (e1 : g'.tabs = g.tabs) (e2 : g'.past = g.past) (e3 : g'.other = some g.cells) :
    GridMem w' p g' v vt vc vp vq b2 bt bc bp r2 rc rp := by
  have hoo := h.other
  unfold OtherAt at hoo
  rw [ho] at hoo
  obtain ⟨rfl, rfl, rfl⟩ := hoo
  have nc := h.cells.ne_blk h.blk (by decide) (by decide)
  have np := h.past.ne_blk h.blk (by decide) (by decide)
  have keep : ∀ b, b < w.heap.size → b ≠ p → w'.heap[b]? = w.heap[b]? := fun b hb hn => hon.2.block b hb (by simpa using hn)
  refine ⟨hon.1, hR, ?_, ?_, ?_, ?_, ?_⟩
  · rw [e1]; exact h.tabs.same (fun b e => keep b (h.tabs.lt b e) (by have ht := h.tabs; rw [e] at ht; exact ht.ne_blk h.blk (by decide)))
  · unfold OtherAt
    rw [e3]
    exact ⟨h.cells.same (fun b e => keep b (h.cells.lt.1 b e) (nc.1 b e)) (fun b e => keep b (h.cells.lt.2 b e) (nc.2 b e)), hne⟩
  · rw [e2]; exact h.past.same (fun b e => keep b (h.past.lt.1 b e) (np.1 b e)) (fun b e => keep b (h.past.lt.2 b e) (np.2 b e))
  · have h1 := h.outs
    simp only [Option.toList_none, List.nil_append] at h1
    rw [List.nodup_append]
    refine ⟨by cases b2 <;> simp, h1, fun a ha b hb => ?_⟩
    have h2 := hb2 a (by simpa using ha)
    have h3 : b < w.heap.size := by
      rcases List.mem_append.1 hb with hb | hb
      · exact h.cells.lt.1 b (by simpa using hb)
      · exact h.past.lt.1 b (by simpa using hb)
    omega
  · have h1 := h.rws
    simp only [List.nil_append] at h1
    rw [List.nodup_append]
    refine ⟨hn, h1, fun a ha b hb => ?_⟩
    have h2 := hr2 a ha
    have h3 : b < w.heap.size := by
      rcases List.mem_append.1 hb with hb | hb
      · exact h.cells.lt.2 b hb
      · exact h.past.lt.2 b hb
    omega

/-- The cells that were put away come back. -/
theorem GridMem.toBack (h : GridMem w p g vc vt vo vp vq bc bt bo bp rc ro rp) {L : List PG.Line} (ho : g.other = some L) (hon : On w w' p 52 (gcells g' vo vt (.slice none 0 0) vp vq))
    (e1 : g'.tabs = g.tabs) (e2 : g'.past = g.past) (e3 : g'.other = none) (e4 : g'.cells = L) : GridMem w' p g' vo vt (.slice none 0 0) vp vq bo bt none bp ro [] rp := by
  have hoo := h.other
  unfold OtherAt at hoo
  rw [ho] at hoo
  obtain ⟨hR, hne⟩ := hoo
  have nc := hR.ne_blk h.blk (by decide) (by decide)
  have np := h.past.ne_blk h.blk (by decide) (by decide)
  have keep : ∀ b, b < w.heap.size → b ≠ p → w'.heap[b]? = w.heap[b]? := fun b hb hn => hon.2.block b hb (by simpa using hn)
  refine ⟨hon.1, ?_, ?_, ?_, ?_, ?_, ?_⟩
  · rw [e4]; exact hR.same (fun b e => keep b (hR.lt.1 b e) (nc.1 b e)) (fun b e => keep b (hR.lt.2 b e) (nc.2 b e))
  · rw [e1]; exact h.tabs.same (fun b e => keep b (h.tabs.lt b e) (by have ht := h.tabs; rw [e] at ht; exact ht.ne_blk h.blk (by decide)))
  · unfold OtherAt
    rw [e3]
    exact ⟨rfl, rfl, rfl⟩
  · rw [e2]; exact h.past.same (fun b e => keep b (h.past.lt.1 b e) (np.1 b e)) (fun b e => keep b (h.past.lt.2 b e) (np.2 b e))
  · have h1 := h.outs
    rw [List.nodup_append] at h1
    simpa using h1.2.1
  · have h1 := h.rws
    rw [List.nodup_append] at h1
    simpa using h1.2.1
end

set_option maxRecDepth 20000 in
set_option maxHeartbeats 4000000 in
theorem alternate_any {w : World} {p : Nat} {F : Nat → Prop} {g : PG.G} {vq : Value} (h : GridAt w p F g vq) (on : Bool) :
    Calls Tryd.prog 50 #[.pointer (some ⟨p, 0, none⟩), .bool on] w (GPost w p F (g.alternate on) vq) := by
  have hI' := h.1.alternate on
  obtain ⟨hI, hF, vc, vt, vo, vp, bc, bt, bo, bp, rc, ro, rp, hM, hfoot⟩ := h
  have hb := hM.blk
  have hpl := hb.lt
  have heq := eql_nil_lines hM.other
  have hneq := neq_nil_lines hM.other
  obtain ⟨oa, onn, oc, rfl⟩ := hM.other.form
  obtain ⟨ca, cn, cc, rfl, hcn⟩ : ∃ a n c, vc = .slice a n c ∧ bc ≠ none := by
    obtain ⟨vals, hS, _⟩ := hM.cells
    obtain ⟨a, c, e, _⟩ := hS.form
    exact ⟨_, _, _, e, hS.ob_ (by have := hI.cells.1; have := hI.r1; omega)⟩
  have c0 := gc_rows hb
  have c1 := gc_cols hb
  have c2 := gc_cells hb
  have c3 := gc_row hb
  have c4 := gc_col hb
  have c5 := gc_due hb
  have c6 := gc_rune hb
  have c7 := gc_fg hb
  have c8 := gc_bg hb
  have c9 := gc_sty hb
  have c23 := gc_other hb
  have c24 := gc_arow hb
  have c25 := gc_acol hb
  have c26 := gc_adue hb
  have c27 := gc_arune hb
  have c28 := gc_afg hb
  have c29 := gc_abg hb
  have c30 := gc_asty hb
  have f2 := hb.frozen 2
  have f3 := hb.frozen 3
  have f4 := hb.frozen 4
  have f5 := hb.frozen 5
  have f6 := hb.frozen 6
  have f7 := hb.frozen 7
  have f8 := hb.frozen 8
  have f9 := hb.frozen 9
  have f23 := hb.frozen 23
  have f24 := hb.frozen 24
  have f25 := hb.frozen 25
  have f26 := hb.frozen 26
  have f27 := hb.frozen 27
  have f28 := hb.frozen 28
  have f29 := hb.frozen 29
  have f30 := hb.frozen 30
  have hr2 := hI.r2
  have hcc := hI.c2
  have HM := Lib.hid hM
  have HI := Lib.hid (And.intro hI (And.intro hI' (And.intro hF hfoot)))
  have HB := Lib.hid hb
  clear hM hI hI' hF hfoot hb
  have same : ∀ on, g.alternate on = g → GPost w p F (g.alternate on) vq (.returned (.tuple #[])) w := fun on e => by
    rw [e]
    exact ⟨F, rfl, ⟨HI.out.1, HI.out.2.2.1, _, _, _, _, _, _, _, _, _, _, _, HM.out, HI.out.2.2.2⟩, Step.refl _ _⟩
  have SAME := Lib.hid same
  clear same
  cases on
  · cases ho : g.other with
    | none =>
      rw [ho] at heq hneq
      have e := SAME.out false (by unfold PG.G.alternate; rw [ho])
      clear ho
      go_enter Tryd.func50, Tryd.ntmps50
      go_wp2
      go_end0
      exact e
    | some L =>
      rw [ho] at heq hneq
      have HO := Lib.hid ho
      clear ho
      have hfin : g.alternate false = { g with cells := L, at_ := g.away, other := none, away := PG.zeroCur } := by unfold PG.G.alternate; rw [HO.out]
      have HFIN := Lib.hid hfin
      clear hfin
      go_enter Tryd.func50, Tryd.ntmps50
      go_wp2
      go_region
      go_wp2
      go_end0
      obtain ⟨hI, hI', hF, hfoot⟩ := HI.out
      rw [HFIN.out] at hI' ⊢
      have key : ∀ W, On w W p 52 (gcells { g with cells := L, at_ := g.away, other := none, away := PG.zeroCur } (.slice oa onn oc) vt (.slice none 0 0) vp vq) →
          GPost w p F { g with cells := L, at_ := g.away, other := none, away := PG.zeroCur } vq (.returned (.tuple #[])) W := fun W hon => by
        refine gpost_mem hI' (HM.out.toBack HO.out hon rfl rfl rfl rfl) (Step.of_on hon (hfoot p (.inl rfl))) (fun b hb => .inl (hfoot b ?_))
        rcases hb with hb | hb | hb | hb | hb | hb | hb | hb
        · exact .inl hb
        · exact .inr (.inr (.inr (.inl hb)))
        · exact .inr (.inr (.inl hb))
        · cases hb
        · exact .inr (.inr (.inr (.inr (.inl hb))))
        · exact .inr (.inr (.inr (.inr (.inr (.inr (.inl hb))))))
        · cases hb
        · exact .inr (.inr (.inr (.inr (.inr (.inr (.inr hb))))))
      refine key _ ?_
      (refine on_ex ?_; apply Exists.intro; apply And.intro; (repeat (first | with_reducible apply On.set | with_reducible apply On.drew)); exact On.refl HB.out; simp [gcells, PG.zeroCur, PG.zeroCell])
  · cases ho : g.other with
    | none =>
      rw [ho] at heq hneq
      have HO := Lib.hid ho
      clear ho
      have hfin : g.alternate true = { g with other := some g.cells, away := g.at_, cells := PG.sheet g.rows g.cols } := by unfold PG.G.alternate; rw [HO.out]
      have HFIN := Lib.hid hfin
      clear hfin
      go_enter Tryd.func50, Tryd.ntmps50
      go_upto_region 1 with fail
      go_cut [] from 5 (fun wx => On w wx p 52 (gcells { g with away := g.at_ } (.slice ca cn cc) vt (.slice ca cn cc) vp vq))
      case first =>
        go_region
        go_wp2
        go_meet
        (refine on_ex ?_; apply Exists.intro; apply And.intro; (repeat (first | with_reducible apply On.set | with_reducible apply On.drew)); exact On.refl HB.out; simp [gcells, PG.zeroCur, PG.zeroCell])
      case rest =>
      have HO0 := Lib.hid hcut
      have k0 : wc.cell? ⟨p, 0, none⟩ = some (.int .i64 g.rows) := gc_rows (g := { g with away := g.at_ }) hcut.1
      have k1 : wc.cell? ⟨p, 1, none⟩ = some (.int .i64 g.cols) := gc_cols (g := { g with away := g.at_ }) hcut.1
      clear hcut c0 c1 c2 c3 c4 c5 c6 c7 c8 c9 c23 c24 c25 c26 c27 c28 c29 c30 f2 f3 f4 f5 f6 f7 f8 f9 f23 f24 f25 f26 f27 f28 f29 f30
      go_wp2_with fail
      go_region_held3 (fun w' => w'.cell? ⟨p, 0, none⟩ = some (.int .i64 g.rows) ∧ w'.cell? ⟨p, 1, none⟩ = some (.int .i64 g.cols)) (first | (go_keep; done) | (exact ⟨(World.cell?_setCell_other _ _ _ _ (by simp)).trans q0, (World.cell?_setCell_other _ _ _ _ (by simp)).trans q1⟩)) (first
        | (go_at_call 26; refine (sheet_any g.rows g.cols _ (by omega) (by omega)).mono ?_; rintro e w1 ⟨v2, o2, r2, rfl, hR2, ho2, hr2', hn2, hb1⟩; obtain ⟨a2, n2, c2', rfl⟩ : ∃ a n c, v2 = .slice a n c := (by obtain ⟨vals, hS, _⟩ := hR2; obtain ⟨a, c, e, _⟩ := hS.form; exact ⟨_, _, _, e⟩); have HO1 := Lib.hid (On.below (W := wc.drew) HO0.out.drew hb1); have HR2 := Lib.hid (And.intro hR2 (And.intro ho2 (And.intro hr2' (And.intro hn2 hb1)))); have q0 : w1.cell? ⟨p, 0, none⟩ = some (.int .i64 g.rows) := gc_rows (g := { g with away := g.at_ }) HO1.out.1; have q1 : w1.cell? ⟨p, 1, none⟩ = some (.int .i64 g.cols) := gc_cols (g := { g with away := g.at_ }) HO1.out.1; have q2 := gc_cells HO1.out.1; have r2' := HO1.out.1.frozen 2; clear hR2 ho2 hr2' hn2 hb1))
      all_goals go_end0
      obtain ⟨hI, hI', hF, hfoot⟩ := HI.out
      obtain ⟨hR2, ho2, hr2', hn2, hb1⟩ := HR2.out
      rw [HFIN.out] at hI' ⊢
      have hsz0 := HO0.out.2.size
      have hon : On w (w1.setCell ⟨p, 2, none⟩ (.slice a2 n2 c2')) p 52 (gcells { g with other := some g.cells, away := g.at_, cells := PG.sheet g.rows g.cols } (.slice a2 n2 c2') vt (.slice ca cn cc) vp vq) := HO1.out.set 2 (.slice a2 n2 c2')
      have hpne : ∀ b, wc.drew.heap.size ≤ b → b ≠ p := fun b hb e => by simp at hb; omega
      have hR3 : RowsAt (w1.setCell ⟨p, 2, none⟩ (.slice a2 n2 c2')) (.slice a2 n2 c2') (PG.sheet g.rows g.cols) o2 r2 :=
        hR2.same (fun b e => Below.heap_setCell w1 _ (.slice a2 n2 c2') b (hpne b (ho2 b e))) (fun b e => Below.heap_setCell w1 _ (.slice a2 n2 c2') b (hpne b (hr2' b e)))
      have hM' := HM.out.toAway (g' := { g with other := some g.cells, away := g.at_, cells := PG.sheet g.rows g.cols }) HO.out hon hR3 (fun b e => by have := ho2 b e; simp at this; omega) (fun b e => by have := hr2' b e; simp at this; omega) hn2 hcn rfl rfl rfl
      refine gpost_mem hI' hM' (Step.of_on hon (hfoot p (.inl rfl))) (fun b hb => ?_)
      rcases hb with hb | hb | hb | hb | hb | hb | hb | hb
      · exact .inl (hfoot b (.inl hb))
      · exact .inr (by have := ho2 b hb; simp at this; omega)
      · exact .inl (hfoot b (.inr (.inr (.inl hb))))
      · exact .inl (hfoot b (.inr (.inl hb)))
      · exact .inl (hfoot b (.inr (.inr (.inr (.inr (.inl hb))))))
      · exact .inr (by have := hr2' b hb; simp at this; omega)
      · exact .inl (hfoot b (.inr (.inr (.inr (.inr (.inr (.inl hb)))))))
      · exact .inl (hfoot b (.inr (.inr (.inr (.inr (.inr (.inr (.inr hb))))))))
    | some L =>
      rw [ho] at heq hneq
      have e := SAME.out true (by unfold PG.G.alternate; rw [ho])
      clear ho
      go_enter Tryd.func50, Tryd.ntmps50
      go_wp2
      go_end0
      exact e

end Go.Proofs.YtdbepelcgmnbbaaDoor
