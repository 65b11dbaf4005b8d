/- The params of an act; is one among them? -/
import Derived.Test.YtdbepelcgmnbbaaDoorModes
namespace Go.Proofs.YtdbepelcgmnbbaaDoor
open Go Go.RowKit

set_option maxRecDepth 20000 in
set_option maxHeartbeats 1000000 in
theorem params_any (w : World) (a : PG.G.Act) (pv : Value) (ob : Option Nat) (hp : ParamsAt w pv a.params ob) (hlen : a.params.length ≤ 100000) (i : Nat) (o : Int) :
    Calls Tryd.prog 51 #[actVal a pv, .int .i64 i, .int .i64 o] w fun e w' => e = .returned (.int .i64 (PG.G.param a.params i o)) ∧ Below w.heap.size w w' := by
  obtain ⟨kind, r, mark, ps⟩ := a
  simp only [actVal] at *
  obtain ⟨pa, pc, rfl⟩ := hp.form
  have hi0 : ¬ (i : Int) < 0 := by omega
  by_cases hlt : i < ps.length
  · have hli : ¬ (ps.length : Int) ≤ (i : Int) := by omega
    have hl2 : (i : Int) < (ps.length : Int) := by omega
    have hl3 : (0 : Int) ≤ (i : Int) := by omega
    obtain ⟨pb, po, pc', e1, e2, hcell, hpb⟩ := hp.cell hlt
    cases e1
    have hg : ps.getD i 0 = ps[i] := by rw [List.getD_eq_getElem?_getD, List.getElem?_eq_getElem hlt]; rfl
    obtain ⟨k, hk⟩ : ∃ k, k = ps[i] := ⟨_, rfl⟩
    rw [← hk] at hcell hg
    have hf : PG.G.param ps i o = if k = 0 then o else k := by unfold PG.G.param; rw [hg]
    rw [hf]
    clear hf hg hk hp e2
    by_cases hk0 : k = 0
    · subst hk0
      go_enter Tryd.func51, Tryd.ntmps51
      go_wp2
      go_ret
      exact ⟨rfl, (Below.refl _ _).alloc (Nat.le_refl _) _⟩
    · have hkb : (k == 0) = false := by simpa using hk0
      go_enter Tryd.func51, Tryd.ntmps51
      go_wp2
      go_ret
      exact ⟨rfl, (Below.refl _ _).alloc (Nat.le_refl _) _⟩
  · have hli : (ps.length : Int) ≤ (i : Int) := by omega
    have hf : PG.G.param ps i o = o := by unfold PG.G.param; rw [List.getD_eq_getElem?_getD, List.getElem?_eq_none (by omega)]; rfl
    rw [hf]
    clear hf hp
    go_enter Tryd.func51, Tryd.ntmps51
    go_wp2
    go_ret
    exact ⟨rfl, (Below.refl _ _).alloc (Nat.le_refl _) _⟩

def IndexRel (ps : List Int) (x : Int) (w : World) (i : Value) (wr : World) : Prop := ∃ n : Nat, n ≤ ps.length ∧ i = .int .i64 n ∧ wr = w ∧ ∀ j, j < n → ps[j]? ≠ some x

set_option maxRecDepth 20000 in
set_option maxHeartbeats 1000000 in
theorem index_ints (w : World) (ps : List Int) (pv : Value) (ob : Option Nat) (hp : ParamsAt w pv ps ob) (hlen : ps.length ≤ 100000) (x : Int) :
    Calls Tryd.prog 63 #[pv, .int .i64 x] w fun e w' => (∃ k : Int, e = .returned (.int .i64 k) ∧ (0 ≤ k ↔ ps.contains x = true)) ∧ w' = w := by
  obtain ⟨pa, pc, rfl⟩ := hp.form
  have HP := Lib.hid hp
  clear hp
  go_enter Tryd.func63, Tryd.ntmps63
  go_wp2_with fail
  go_loopw [5, 8] (fun _ i wr => IndexRel ps x w i wr) (fun _ i _ => ps.length - (intOf i).toNat)
  case atStart => exact ⟨0, Nat.zero_le _, rfl, rfl, fun j h => by omega⟩
  case round =>
    obtain ⟨n, hn, rfl, rfl, hno⟩ := hrel
    have HN := Lib.hid hno
    clear hno
    by_cases hlt : n < ps.length
    · have hl2 : (n : Int) < (ps.length : Int) := by omega
      have hl3 : (0 : Int) ≤ (n : Int) := by omega
      obtain ⟨pb, po, pc', e1, e2, hcell, hpb⟩ := HP.out.cell hlt
      cases e1
      obtain ⟨k, hk⟩ : ∃ k, k = ps[n] := ⟨_, rfl⟩
      rw [← hk] at hcell
      have HK := Lib.hid hk
      clear hk
      by_cases hkx : x = k
      · subst hkx
        go_wp2
        go_ret
        refine ⟨⟨n, rfl, ⟨fun _ => ?_, fun _ => by omega⟩⟩, rfl⟩
        rw [HK.out]
        simp
      · have hb : (x == k) = false := by simpa using hkx
        go_wp2
        go_simp
        go_roundw
        case rel =>
          refine ⟨n + 1, by omega, by go_num, rfl, fun j hj => ?_⟩
          by_cases e : j = n
          · subst e
            rw [List.getElem?_eq_getElem hlt, ← HK.out]
            intro e
            exact hkx (Option.some.inj e).symm
          · exact HN.out j (by omega)
        case measure => simp [intOf]; omega
    · have hl2 : ¬ (n : Int) < (ps.length : Int) := by omega
      go_wp2
      go_ret
      refine ⟨⟨-1, rfl, ⟨fun h => by omega, fun h => ?_⟩⟩, rfl⟩
      obtain ⟨j, hj, e⟩ := List.mem_iff_getElem.1 h
      exact absurd (by rw [List.getElem?_eq_getElem hj, e]) (HN.out j (by omega))

set_option maxRecDepth 20000 in
set_option maxHeartbeats 1000000 in
theorem contains_ints (w : World) (ps : List Int) (pv : Value) (ob : Option Nat) (hp : ParamsAt w pv ps ob) (hlen : ps.length ≤ 100000) (x : Int) :
    Calls Tryd.prog 53 #[pv, .int .i64 x] w fun e w' => e = .returned (.bool (ps.contains x)) ∧ w' = w := by
  obtain ⟨pa, pc, rfl⟩ := hp.form
  have HP := Lib.hid hp
  clear hp
  go_enter Tryd.func53, Tryd.ntmps53
  go_wp2_with fail
  refine (index_ints w ps _ ob (by exact HP.out) hlen x).mono ?_
  rintro e w' ⟨⟨k, rfl, hk⟩, rfl⟩
  have HK := Lib.hid hk
  clear hk
  by_cases h0 : 0 ≤ k
  · go_wp2
    go_ret
    exact ⟨by rw [HK.out.1 h0]; rfl, rfl⟩
  · have hf : ps.contains x = false := by
      rw [Bool.eq_false_iff]
      exact fun e => h0 (HK.out.2 e)
    have HF := Lib.hid hf
    clear hf
    go_wp2
    go_ret
    exact ⟨by rw [HF.out, ← (show decide (0 ≤ k) = false by simpa using h0)]; rfl, rfl⟩

end Go.Proofs.YtdbepelcgmnbbaaDoor
