/- What the listed variables hold. A world that holds them. -/
import Derived.Test.YtdbepelcgmnbbaaDoorGridSizes
import Derived.Test.YtdbepelcgmnbbaaDoorRows
import Derived.Lib.LaidU8T
import Derived.Lib.LaidIn
import Derived.ProofKit
import Derived.OpenShut
import Derived.Deep.DeepHandedRow
import Derived.Deep.DeepWitnessRowRef
namespace Go.Proofs.YtdbepelcgmnbbaaDoor
open Go Go.RowKit Go.Lib Go.Shelf

def strsOf : DataW Unit → List (List UInt8)
  | .agg l => l.map fun | .lit (.string s) => s | _ => []
  | _ => []

theorem strTab_of_reads {P : Program} {w : World} {name : String} {g t e N : Nat} {ss : List (List UInt8)} (hv : VarReads P w name (.agg (ss.map fun s => .lit (.string s)))) (hg : P.globalNamed name = some g)
    (hy : (P.globals[g]?).map (·.type) = some t) (hu : P.underlying t = some (.array N e)) (he : P.underlying e = some .string) (hc : P.cellsOf e = 1) (hN : ss.length = N) (h0 : 0 < N) (hs : ∀ s ∈ ss, s.length ≤ 8) : StrTab w g N := by
  obtain ⟨g', t', cs, fuel, p, e1, e2, hvar, hd⟩ := hv
  obtain rfl := Option.some.inj (hg.symm.trans e1)
  obtain rfl := Option.some.inj (hy.symm.trans e2)
  have hcell : ∀ j, j < N → ∃ s : ByteArray, w.cell? ⟨g, j, none⟩ = some (.string s) ∧ s.size ≤ 8 := fun j hj => by
    obtain ⟨fuel', d, q, hdi, hel⟩ := array_elem hu hd j hj
    rw [hc, Nat.mul_one] at hel
    obtain ⟨s, h1, h2, h3⟩ := DataW.trod_string he hel
    have hjs : j < ss.length := by omega
    rw [List.getElem?_map, List.getElem?_eq_getElem hjs] at hdi
    simp only [Option.map_some, Option.some.injEq] at hdi
    have e3 : d = .lit (.string s.data.toList) := congrArg Prod.fst h2
    rw [← hdi] at e3
    have e4 : ss[j] = s.data.toList := by injection e3 with e3; injection e3
    refine ⟨s, ?_, ?_⟩
    · rw [World.var?_cell hg hvar j, ← Array.getElem?_toList]
      have := congrArg (·[0]?) h1
      simpa [List.getElem?_take, List.getElem?_drop] using this
    · have := hs _ (List.getElem_mem hjs)
      rw [e4, Array.length_toList] at this
      exact this
  obtain ⟨s, h1, _⟩ := hcell 0 h0
  exact ⟨World.block_lt_of_cell? w _ h1, hcell⟩

noncomputable def ren : Ren := ⟨id, fun n => if n = 5 then 5 else if n = 119 then 107 else if n = 138 then 109 else if n = 139 then 110 else n, fun n => if n = 3 then 2 else if n = 4 then 3 else n⟩

def laidList : List (String × DataW Unit) := [("unicode/utf8.acceptRanges", Rows.laid_unicode_utf8_acceptRanges), ("porthole/portholehand.parts", Rows.laid_porthole_portholehand_parts), ("porthole/portholehand.more", Rows.laid_porthole_portholehand_more), ("unicode/utf8.first", Rows.laid_unicode_utf8_first)]

set_option maxRecDepth 100000 in
theorem facts_of_laid {W : World} (h : laidMet Tryd.prog laidList W) : Lib.Utf8Tabs 2 3 W ∧ StrTab W 0 34 ∧ StrTab W 1 22 := by
  refine ⟨?_, ?_, ?_⟩
  · have h3 : VarReads Tryd.prog W "unicode/utf8.first" Rows.laid_unicode_utf8_first := Lib.laidMet.reads h (.tail _ (.tail _ (.tail _ (.head _))))
    have h4 : VarReads Tryd.prog W "unicode/utf8.acceptRanges" Rows.laid_unicode_utf8_acceptRanges := Lib.laidMet.reads h (.head _)
    rw [show Rows.laid_unicode_utf8_first = Lib.firstData by kernel_rfl] at h3
    rw [show (Rows.laid_unicode_utf8_acceptRanges : DataW Unit) = Lib.acceptData by kernel_rfl] at h4
    exact utf8Tabs_of_readsT (P := Tryd.prog) (ρ := ren) ⟨by kernel_rfl, by kernel_rfl, by kernel_rfl, by kernel_rfl⟩ ⟨by kernel_rfl, by kernel_rfl, by kernel_rfl, by kernel_rfl, by kernel_rfl, by kernel_rfl, by kernel_rfl⟩ h3 h4
  · have h3 : VarReads Tryd.prog W "porthole/portholehand.parts" Rows.laid_porthole_portholehand_parts := Lib.laidMet.reads h (.tail _ (.head _))
    rw [show (Rows.laid_porthole_portholehand_parts : DataW Unit) = .agg ((strsOf Rows.laid_porthole_portholehand_parts).map fun s => .lit (.string s)) by kernel_rfl] at h3
    exact strTab_of_reads h3 (t := 54) (e := 9) (by kernel_rfl) (by kernel_rfl) Tryd.underlying54 Tryd.underlying9 (by kernel_rfl) (by kernel_rfl) (by omega) (by
      have := List.all_eq_true.1 (show (strsOf Rows.laid_porthole_portholehand_parts).all (fun s => decide (s.length ≤ 8)) = true by kernel_rfl)
      intro s hs
      simpa using this s hs)
  · have h3 : VarReads Tryd.prog W "porthole/portholehand.more" Rows.laid_porthole_portholehand_more := Lib.laidMet.reads h (.tail _ (.tail _ (.head _)))
    rw [show (Rows.laid_porthole_portholehand_more : DataW Unit) = .agg ((strsOf Rows.laid_porthole_portholehand_more).map fun s => .lit (.string s)) by kernel_rfl] at h3
    exact strTab_of_reads h3 (t := 55) (e := 9) (by kernel_rfl) (by kernel_rfl) Tryd.underlying55 Tryd.underlying9 (by kernel_rfl) (by kernel_rfl) (by omega) (by
      have := List.all_eq_true.1 (show (strsOf Rows.laid_porthole_portholehand_more).all (fun s => decide (s.length ≤ 8)) = true by kernel_rfl)
      intro s hs
      simpa using this s hs)

/-- The settled world, the four variables holding what their initialisers lay. -/
noncomputable def laidWorld (os : Os) : World :=
  let w0 := World.holding Tryd.prog os ⟨#[], #[], []⟩
  let put (h : Array Obj) (g : Nat) (cs : Array Value) : Array Obj := h.modify g fun
    | .cells _ t frozen => .cells cs t frozen
    | o => o
  let h1 := put w0.heap 2 (Lib.firstTab.map fun z => Value.int .u8 z).toArray
  let h2 := put h1 3 ((List.range 16).flatMap fun i => [Value.int .u8 (Lib.accLo i), Value.int .u8 (Lib.accHi i)]).toArray
  let h3 := put h2 0 ((strsOf Rows.laid_porthole_portholehand_parts).map fun s => Value.string ⟨s.toArray⟩).toArray
  let h4 := put h3 1 ((strsOf Rows.laid_porthole_portholehand_more).map fun s => Value.string ⟨s.toArray⟩).toArray
  { w0 with heap := h4 }
theorem laid_met (os : Os) (args : Array Value) : laidMet Tryd.prog laidList ((laidWorld os).forCall (fun _ _ => 0) ⟨#[], args, []⟩).memory :=
  (LaidIn.of_run (l := laidList) [3, 0, 1, 2] 8 (by kernel_rfl) (by kernel_rfl) (by kernel_rfl) (by kernel_rfl)).met

end Go.Proofs.YtdbepelcgmnbbaaDoor
