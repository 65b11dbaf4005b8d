/- The tab stops. -/
import Derived.Test.YtdbepelcgmnbbaaDoorParams
namespace Go.Proofs.YtdbepelcgmnbbaaDoor
open Go Go.RowKit

section
variable {w w' : World} {p : Nat} {g g' : PG.G} {vc vt vo vp vq : Value} {bc bt bo bp : Option Nat} {rc ro rp : List Nat}

/-- The tab stops are others now; of the old blocks only theirs and the grid's own have turned. -/
theorem GridMem.newtabs (h : GridMem w p g vc vt vo vp vq bc bt bo bp rc ro rp) {vt' : Value} {bt' : Option Nat} (hB : Blk w' p 52 (gcells g' vc vt' vo vp vq)) (hs : ∀ b, b < w.heap.size → b ≠ p → bt ≠ some b → w'.heap[b]? = w.heap[b]?)
    (hT : SlAt w' 4 1 vt' g'.tabs.length (g'.tabs.map Value.bool) bt') (e1 : g'.cells = g.cells) (e3 : g'.other = g.other) (e4 : g'.past = g.past) : GridMem w' p g' vc vt' vo vp vq bc bt' bo bp rc ro rp := by
  have nt : ∀ {b t cs}, bt = some b → Blk w b t cs → t = 4 := by
    intro b t cs e hb
    have ht := h.tabs
    rw [e] at ht
    obtain ⟨b', o, c, cur, _, e2, hB', _⟩ := ht.some_ (by simp)
    cases e2
    by_cases hne : t = 4
    · exact hne
    · exact absurd rfl (hb.ne_ hB' hne)
  have keep : ∀ {b t cs}, Blk w b t cs → 52 ≠ t → t ≠ 4 → w'.heap[b]? = w.heap[b]? := fun hb h1 h2 =>
    hs _ hb.lt (fun e => by subst e; exact (h.blk.ne_ hb h1) rfl) (fun e => h2 (nt e hb))
  have rows : ∀ {v : Value} {L : List PG.Line} {ob : Option Nat} {rb : List Nat}, RowsAt w v L ob rb → RowsAt w' v L ob rb := by
    intro v L ob rb hR
    obtain ⟨R, e1, e2, hz⟩ := hR.zip
    refine hR.same (fun b e => ?_) (fun b hb => ?_)
    · subst e
      obtain ⟨b', o, c, cur, _, e3, hB', _⟩ := hz.1.some_ (by simp)
      cases e3
      exact keep hB' (by decide) (by decide)
    · rw [← e2] at hb
      obtain ⟨x, hx, rfl⟩ := List.mem_map.1 hb
      obtain ⟨b', o, c, cur, _, e3, hB', _⟩ := (hz.2 x hx).some_ (by simp)
      cases e3
      exact keep hB' (by decide) (by decide)
  refine ⟨hB, by rw [e1]; exact rows h.cells, hT, ?_, by rw [e4]; exact rows h.past, h.outs, h.rws⟩
  rw [e3]
  have ho := h.other
  unfold OtherAt at ho ⊢
  cases hg : g.other with
  | none => rw [hg] at ho; exact ho
  | some L => rw [hg] at ho; exact ⟨rows ho.1, ho.2⟩
end

end Go.Proofs.YtdbepelcgmnbbaaDoor
