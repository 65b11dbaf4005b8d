/- A terminal parser in memory; plain runes, and those behind an escape. -/
import Derived.Test.YtdbepelcgmnbbaaDoorGridAt
import Derived.Test.YtdbepelcgmnbbaaDoorActs
import Derived.Test.YtdbepelcgmnbbaaDoorVtPure
import Derived.BigQuiet
import Derived.Deep.QuietTactic
import Derived.Deep.Cut
namespace Go.Proofs.YtdbepelcgmnbbaaDoor
open Go Go.RowKit

def pcells (s : PV.P) (d : Nat) (vp : Value) : Array Value := #[.pointer (some ⟨d, 0, none⟩), .int .i64 s.state, .bool s.mark, .bool s.odd, .bool s.begun, .bool s.over, vp]
section
variable {w : World} {q : Nat} {s : PV.P} {d : Nat} {vp : Value} (h : Blk w q 72 (pcells s d vp))
include h
theorem pc_dec : w.cell? ⟨q, 0, none⟩ = some (.pointer (some ⟨d, 0, none⟩)) := h.cell 0
theorem pc_state : w.cell? ⟨q, 1, none⟩ = some (.int .i64 s.state) := h.cell 1
theorem pc_mark : w.cell? ⟨q, 2, none⟩ = some (.bool s.mark) := h.cell 2
theorem pc_odd : w.cell? ⟨q, 3, none⟩ = some (.bool s.odd) := h.cell 3
theorem pc_begun : w.cell? ⟨q, 4, none⟩ = some (.bool s.begun) := h.cell 4
theorem pc_over : w.cell? ⟨q, 5, none⟩ = some (.bool s.over) := h.cell 5
theorem pc_params : w.cell? ⟨q, 6, none⟩ = some vp := h.cell 6
end

/-- The part of a parser that goes by runes lies at block q. -/
def RunAt (w : World) (q : Nat) (F : Nat → Prop) (s : PV.P) (d : Nat) : Prop :=
  s.Inv ∧ (∀ b, F b → b < w.heap.size) ∧ ∃ (vp : Value) (op : Option Nat), Blk w q 72 (pcells s d vp) ∧ SlAt w 3 1 vp s.params.length (s.params.map (Value.int .i64)) op ∧ F q ∧ ∀ b, op = some b → F b

/-- What a rune's method hands back. -/
def RunPost (w : World) (q : Nat) (F : Nat → Prop) (d : Nat) (x : PV.P × PG.G.Act × Bool) (e : Ending) (w' : World) : Prop :=
  ∃ (pv : Value) (ob : Option Nat) (F' : Nat → Prop), e = .returned (.tuple #[actVal x.2.1 pv, .bool x.2.2]) ∧ ParamsAt w' pv x.2.1.params ob ∧ (∀ b, ob = some b → w.heap.size ≤ b ∧ ¬ F' b) ∧ RunAt w' q F' x.1 d ∧ Step F F' w w'

theorem On.other {w W : World} {p : Nat} {t : TypeId} {cs : Array Value} (h : On w W p t cs) (hp : p < w.heap.size) {a : Addr} (ha : w.heap.size ≤ a.block) (u : Value) : On w (W.setCell a u) p t cs :=
  ⟨h.1.far (by omega) u, h.2.os, h.2.tape, h.2.output, by have := h.2.size; simpa using this, fun k hk hn => (Below.heap_setCell W _ u k (by omega)).trans (h.2.block k hk hn)⟩

section
variable {w w' : World} {q d : Nat} {F : Nat → Prop} {s s' : PV.P}
theorem RunAt.blk (h : RunAt w q F s d) : ∃ vp, Blk w q 72 (pcells s d vp) := by
  obtain ⟨hI, hF, vp, op, hb, _⟩ := h
  exact ⟨vp, hb⟩
theorem RunAt.keep {G G' : Nat → Prop} (h : RunAt w q F s d) (hs : Step G G' w w') (hd : ∀ b, F b → ¬ G b) : RunAt w' q F s d := by
  obtain ⟨hI, hF, vp, op, hb, hS, hq, ho⟩ := h
  exact ⟨hI, fun b hb => Nat.lt_of_lt_of_le (hF b hb) hs.size, vp, op, hs.blk hb (hd q hq), hS.step hs (fun b e => hd b (ho b e)), hq, ho⟩
theorem RunAt.below (h : RunAt w q F s d) (hb : Below w.heap.size w w') : RunAt w' q F s d :=
  h.keep (G := fun _ => False) (G' := fun _ => False) ⟨hb.os, hb.tape, hb.output, hb.size, fun k hk _ => hb.block k hk, fun _ h => h.elim⟩ (fun _ _ h => h)
theorem RunAt.drew (h : RunAt w q F s d) : RunAt w.drew q F s d := h
theorem RunAt.drewN (h : RunAt w q F s d) (n : Nat) : RunAt (w.drewN n) q F s d := h
theorem RunAt.alloc (h : RunAt w q F s d) (o : Obj) : RunAt (w.alloc o) q F s d :=
  h.below ⟨rfl, rfl, rfl, by simp, fun k hk => Below.heap_alloc w o k hk⟩
theorem RunAt.scalar (h : RunAt w q F s d) (hI' : s'.Inv) (he : s'.params = s.params) (ho : ∀ vp, Blk w q 72 (pcells s d vp) → On w w' q 72 (pcells s' d vp)) : RunAt w' q F s' d ∧ Step F F w w' := by
  obtain ⟨hI, hF, vp, op, hb, hS, hq, hop⟩ := h
  have hon := ho vp hb
  refine ⟨⟨hI', fun b hb => Nat.lt_of_lt_of_le (hF b hb) hon.2.size, vp, op, hon.1, ?_, hq, hop⟩, Step.of_on hon hq⟩
  rw [he]
  refine hS.same fun b e => hon.2.block b (hF b (hop b e)) (fun e' => ?_)
  cases e'
  subst e
  exact (hS.ne_blk hb (by decide)) rfl
theorem runpost_scalar (h : RunAt w q F s d) (hI' : s'.Inv) (he : s'.params = s.params) (ho : ∀ vp, Blk w q 72 (pcells s d vp) → On w w' q 72 (pcells s' d vp)) (a : PG.G.Act) (ha : a.params = []) (ok : Bool) :
    RunPost w q F d (s', a, ok) (.returned (.tuple #[.agg #[.int .i64 a.kind, .int .i32 a.rune, .bool a.mark, .slice none 0 0], .bool ok])) w' := by
  obtain ⟨h1, h2⟩ := h.scalar hI' he ho
  refine ⟨.slice none 0 0, none, F, rfl, ?_, fun b e => (by cases e), h1, h2⟩
  unfold ParamsAt
  rw [ha]
  exact SlAt.nil _ _ _
theorem runpost_new {vp : Value} {op : Option Nat} (hI' : s'.Inv) (hq : F q) (hF : ∀ b, F b → b < w.heap.size) (hP : SlAt w' 3 1 vp s'.params.length (s'.params.map (Value.int .i64)) op) (hop : ∀ b, op = some b → F b ∨ w.heap.size ≤ b)
    (ho : On w w' q 72 (pcells s' d vp)) (a : PG.G.Act) (ha : a.params = []) (ok : Bool) :
    RunPost w q F d (s', a, ok) (.returned (.tuple #[.agg #[.int .i64 a.kind, .int .i32 a.rune, .bool a.mark, .slice none 0 0], .bool ok])) w' := by
  refine ⟨.slice none 0 0, none, fun b => F b ∨ op = some b, rfl, ?_, fun b e => (by cases e), ⟨hI', fun b hb => ?_, vp, op, ho.1, hP, .inl hq, fun b e => .inr e⟩, ?_⟩
  · unfold ParamsAt
    rw [ha]
    exact SlAt.nil _ _ _
  · rcases hb with hb | hb
    · exact Nat.lt_of_lt_of_le (hF b hb) ho.2.size
    · exact hP.lt b hb
  · exact (Step.of_on (F := F) ho hq).sub' fun b hb => by
      rcases hb with hb | hb
      · exact .inl hb
      · exact hop b hb
end

set_option maxHeartbeats 400000 in
theorem vtcontrol_any (w : World) (r : Int) (b : Bool) (hb : b = decide (7 ≤ r ∧ r ≤ 13)) : Calls Tryd.prog 60 #[.int .i32 r] w fun e w' => e = .returned (.bool b) ∧ w = w' := by
  by_cases h1 : 7 ≤ r
  · have d1 : decide (7 ≤ r) = true := by simpa using h1
    by_cases h2 : r ≤ 13
    · have d2 : decide (r ≤ 13) = true := by simpa using h2
      obtain rfl : b = true := by rw [hb]; simp; omega
      clear hb
      go_enter Tryd.func60, Tryd.ntmps60
      go_wp2
      go_ret
      exact ⟨rfl, rfl⟩
    · have d2 : decide (r ≤ 13) = false := by simpa using h2
      obtain rfl : b = false := by rw [hb]; simp; omega
      clear hb
      go_enter Tryd.func60, Tryd.ntmps60
      go_wp2
      go_ret
      exact ⟨rfl, rfl⟩
  · have d1 : decide (7 ≤ r) = false := by simpa using h1
    obtain rfl : b = false := by rw [hb]; simp; omega
    clear hb
    go_enter Tryd.func60, Tryd.ntmps60
    go_wp2
    go_ret
    exact ⟨rfl, rfl⟩


set_option maxRecDepth 20000 in
set_option maxHeartbeats 1000000 in
theorem plain_any {w : World} {q d : Nat} {F : Nat → Prop} {s : PV.P} (h : RunAt w q F s d) (r : Int) :
    Calls Tryd.prog 45 #[.pointer (some ⟨q, 0, none⟩), .int .i32 r] w (RunPost w q F d (s, PV.plain r)) := by
  have H := Lib.hid h
  clear h
  obtain ⟨c, hc⟩ : ∃ c, c = decide (7 ≤ r ∧ r ≤ 13) := ⟨_, rfl⟩
  have HC := Lib.hid hc
  clear hc
  go_enter Tryd.func45, Tryd.ntmps45
  go_wp2_with fail
  refine (vtcontrol_any _ r c HC.out).mono ?_
  rintro e w' ⟨rfl, rfl⟩
  have fin : ∀ (a : PG.G.Act) (ok : Bool) (W : World), PV.plain r = (a, ok) → a.params = [] → (∀ vp, Blk w q 72 (pcells s d vp) → On w W q 72 (pcells s d vp)) →
      RunPost w q F d (s, PV.plain r) (.returned (.tuple #[.agg #[.int .i64 a.kind, .int .i32 a.rune, .bool a.mark, .slice none 0 0], .bool ok])) W := by
    intro a ok W e ha ho
    rw [e]
    exact runpost_scalar H.out H.out.1 rfl ho a ha ok
  have FIN := Lib.hid fin
  clear fin
  cases c
  · have hn : ¬ (7 ≤ r ∧ r ≤ 13) := by have := HC.out; simpa using this.symm
    by_cases h32 : r < 32
    · have d1 : decide (r < 32) = true := by simpa using h32
      go_wp2
      refine bodyPost_ret (v := .tuple #[.agg #[.int .i64 0, .int .i32 0, .bool false, .slice none 0 0], .bool false]) (by simp [results, Tryd.results45, go_sem]) rfl (FIN.out PV.noAct false _ (by unfold PV.plain; rw [if_neg hn, if_pos (.inl h32)]) rfl (fun vp hb => ?_))
      (refine on_ex ?_; apply Exists.intro; apply And.intro; (repeat (first | with_reducible apply On.set | with_reducible apply On.drew | with_reducible apply On.alloc | (with_reducible refine On.other ?_ hb.lt (by simp) _))); exact On.refl hb; simp [pcells])
    · have d1 : decide (r < 32) = false := by simpa using h32
      by_cases h127 : r = 127
      · subst h127
        go_wp2
        refine bodyPost_ret (v := .tuple #[.agg #[.int .i64 0, .int .i32 0, .bool false, .slice none 0 0], .bool false]) (by simp [results, Tryd.results45, go_sem]) rfl (FIN.out PV.noAct false _ (by unfold PV.plain; simp) rfl (fun vp hb => ?_))
        (refine on_ex ?_; apply Exists.intro; apply And.intro; (repeat (first | with_reducible apply On.set | with_reducible apply On.drew | with_reducible apply On.alloc | (with_reducible refine On.other ?_ hb.lt (by simp) _))); exact On.refl hb; simp [pcells])
      · have d2 : (r == 127) = false := by simpa using h127
        go_wp2
        refine bodyPost_ret (v := .tuple #[.agg #[.int .i64 1, .int .i32 r, .bool false, .slice none 0 0], .bool true]) (by simp [results, Tryd.results45, go_sem]) rfl (FIN.out ⟨1, r, false, []⟩ true _ (by unfold PV.plain; rw [if_neg hn, if_neg (by omega)]) rfl (fun vp hb => ?_))
        (refine on_ex ?_; apply Exists.intro; apply And.intro; (repeat (first | with_reducible apply On.set | with_reducible apply On.drew | with_reducible apply On.alloc | (with_reducible refine On.other ?_ hb.lt (by simp) _))); exact On.refl hb; simp [pcells])
  · have hn : 7 ≤ r ∧ r ≤ 13 := by have := HC.out; simpa using this.symm
    go_wp2
    refine bodyPost_ret (v := .tuple #[.agg #[.int .i64 2, .int .i32 r, .bool false, .slice none 0 0], .bool true]) (by simp [results, Tryd.results45, go_sem]) rfl (FIN.out (PV.ctl r) true _ (by unfold PV.plain; rw [if_pos hn]) rfl (fun vp hb => ?_))
    (refine on_ex ?_; apply Exists.intro; apply And.intro; (repeat (first | with_reducible apply On.set | with_reducible apply On.drew | with_reducible apply On.alloc | (with_reducible refine On.other ?_ hb.lt (by simp) _))); exact On.refl hb; simp [pcells])

end Go.Proofs.YtdbepelcgmnbbaaDoor
