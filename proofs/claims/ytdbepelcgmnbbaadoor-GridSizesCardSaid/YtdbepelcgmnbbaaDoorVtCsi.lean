/- Runes within a sequence. -/
import Derived.Test.YtdbepelcgmnbbaaDoorVtEsc
import Derived.Test.YtdbepelcgmnbbaaDoorWipe
import Derived.Deep.RegionLaw
import Derived.Deep.RegionHeld
namespace Go.Proofs.YtdbepelcgmnbbaaDoor
open Go Go.RowKit

theorem Tryd.infoInt : (Tryd.prog.info? 3).map (fun i => (i.zero, i.size, i.bytes)) = some (some (.int .i64 0), 1, 8) := by kernel_rfl

theorem ints_one (l : List Int) : ∀ u ∈ l.map (Value.int .i64), u.oneCell' = true := by
  intro u hu
  obtain ⟨x, _, rfl⟩ := List.mem_map.1 hu
  rfl

theorem gb_refl (w : World) (row : Option Nat) : w.grownBy w row := ⟨rfl, rfl, rfl, Nat.le_refl _, fun _ _ _ => rfl⟩
theorem gb_drew {w W : World} {row : Option Nat} (h : w.grownBy W row) : w.grownBy W.drew row := ⟨h.os, h.tape, h.output, h.size, h.block⟩
theorem gb_alloc {w W : World} {row : Option Nat} (h : w.grownBy W row) (o : Obj) : w.grownBy (W.alloc o) row :=
  ⟨h.os, h.tape, h.output, by have := h.size; simp; omega, fun k hk hn => (Below.heap_alloc W o k (Nat.lt_of_lt_of_le hk h.size)).trans (h.block k hk hn)⟩
theorem gb_set {w W : World} {q : Nat} (h : w.grownBy W (some q)) (i : Nat) (u : Value) : w.grownBy (W.setCell ⟨q, i, none⟩ u) (some q) :=
  ⟨h.os, h.tape, h.output, by have := h.size; simpa using this, fun k hk hn => (Below.heap_setCell W _ u k (by rintro rfl; exact hn rfl)).trans (h.block k hk hn)⟩
theorem gb_new {w W : World} {row : Option Nat} (h : w.grownBy W row) {a : Addr} (ha : w.heap.size ≤ a.block) (u : Value) : w.grownBy (W.setCell a u) row :=
  ⟨h.os, h.tape, h.output, by have := h.size; simpa using this, fun k hk hn => (Below.heap_setCell W a u k (by omega)).trans (h.block k hk hn)⟩
theorem Blk.far_ {w : World} {g : Nat} {t : TypeId} {cs : Array Value} {p : Addr} {u : Value} (hp : g ≠ p.block) (h : Blk w g t cs) : Blk (w.setCell p u) g t cs := h.far hp u
/-- A chain of stores, seen from one block's cells. -/
theorem blk_ex {W : World} {q : Nat} {t : TypeId} {cs' : Array Value} (h : ∃ cs, Blk W q t cs ∧ cs = cs') : Blk W q t cs' := by obtain ⟨cs, h, rfl⟩ := h; exact h

theorem runpost_gen {w w' : World} {q d : Nat} {F : Nat → Prop} {s' : PV.P} {vp : Value} {op : Option Nat} (hI' : s'.Inv) (hq : F q) (hF : ∀ b, F b → b < w.heap.size) (hP : SlAt w' 3 1 vp s'.params.length (s'.params.map (Value.int .i64)) op)
    (hop : ∀ b, op = some b → F b ∨ w.heap.size ≤ b) (hB : Blk w' q 72 (pcells s' d vp)) (hs : Step F F w w') (a : PG.G.Act) (ha : a.params = []) (ok : Bool) :
    RunPost w q F d (s', a, ok) (.returned (.tuple #[.agg #[.int .i64 a.kind, .int .i32 a.rune, .bool a.mark, .slice none 0 0], .bool ok])) w' := by
  refine ⟨.slice none 0 0, none, fun b => F b ∨ op = some b, rfl, ?_, fun b e => (by cases e), ⟨hI', fun b hb => ?_, vp, op, hB, hP, .inl hq, fun b e => .inr e⟩, ?_⟩
  · unfold ParamsAt
    rw [ha]
    exact SlAt.nil _ _ _
  · rcases hb with hb | hb
    · exact Nat.lt_of_lt_of_le (hF b hb) hs.size
    · exact hP.lt b hb
  · exact hs.sub' fun b hb => by
      rcases hb with hb | hb
      · exact .inl hb
      · exact hop b hb

theorem digit_at {w W : World} {q d : Nat} {F : Nat → Prop} {s : PV.P} {r X : Int} {m pb po pc : Nat} {cur : Array Value} (hS : SlAt w 3 1 (.slice (some ⟨pb, po, none⟩) (m + 1) pc) s.params.length (s.params.map (Value.int .i64)) (some pb))
    (hBp : Blk w pb 3 cur) (hq : F q) (hop : ∀ b, some pb = some b → F b) (hF : ∀ b, F b → b < w.heap.size) (hI' : (PV.digit s r).Inv) (hm : s.params.length = m + 1) (hov : s.over = false) (hX : X = min (10 * PV.last s.params + (r - 48)) 9999)
    (hBW : Blk W pb 3 (cur.setIfInBounds (po + m) (.int .i64 X))) (hBq : Blk W q 72 (pcells { s with begun := true } d (.slice (some ⟨pb, po, none⟩) (m + 1) pc))) (hst : Step F F w W) :
    RunPost w q F d (PV.digit s r, PV.noAct, false) (.returned (.tuple #[.agg #[.int .i64 0, .int .i32 0, .bool false, .slice none 0 0], .bool false])) W := by
  have e : PV.digit s r = { s with begun := true, params := s.params.set m X } := by unfold PV.digit; rw [hov, hX, hm]; rfl
  rw [e] at hI' ⊢
  refine runpost_gen (a := PV.noAct) hI' hq hF ?_ (fun b e => .inl (hop b e)) hBq hst rfl false
  have hS2 := hS
  rw [hm] at hS2
  have h9 := hS2.laid (cs := [.int .i64 X]) hBp m (by simp [hm]) hBW
  rw [show over (s.params.map (Value.int .i64)) m [.int .i64 X] = (s.params.set m X).map (Value.int .i64) by
    rw [List.map_set]; unfold over; rw [List.set_eq_take_append_cons_drop, if_pos (by simp [hm])]; simp] at h9
  simpa [hm] using h9


theorem Step.setNew {F F1 : Nat → Prop} {w w1 : World} {p : Addr} {u : Value} (hp : w.heap.size ≤ p.block) (h : Step F F1 w w1) : Step F F1 w (w1.setCell p u) := h.setCell (.inr hp) u
theorem Step.of_new {F : Nat → Prop} {w w1 w2 : World} {B : Nat} (hs : Step F F w w1) (hg : w1.grownBy w2 (some B)) (hB : w.heap.size ≤ B) : Step F F w w2 :=
  ⟨hg.os.trans hs.os, hg.tape.trans hs.tape, hg.output.trans hs.output, Nat.le_trans hs.size hg.size,
    fun k hk hn => (hg.block k (Nat.lt_of_lt_of_le hk hs.size) (fun e => by have := Option.some.inj e; omega)).trans (hs.block k hk hn), fun _ h => .inl h⟩
theorem SlAt.far {w : World} {t size n : Nat} {v : Value} {xs : List Value} {ob : Option Nat} (h : SlAt w t size v n xs ob) {a : Addr} (hne : ob ≠ some a.block) (u : Value) : SlAt (w.setCell a u) t size v n xs ob :=
  h.same fun b e => Below.heap_setCell w a u b (by rintro rfl; exact hne e)
set_option maxRecDepth 20000 in
set_option maxHeartbeats 8000000 in
theorem vtcsi_any {w : World} {q d : Nat} {F : Nat → Prop} {s : PV.P} (h : RunAt w q F s d) (h3 : s.state = 3) (r : Int) :
    Calls Tryd.prog 44 #[.pointer (some ⟨q, 0, none⟩), .int .i32 r] w (RunPost w q F d (PV.csi s r)) := by
  have hI' := PV.csi_inv h.1 h3 r
  have hpos := h.1.some_ h3
  have hmost := h.1.most
  have hrng := h.1.range _ (PV.last_mem hpos)
  have H := Lib.hid h
  obtain ⟨hI, hF, vp, op, hb, hS, hq, hop⟩ := h
  obtain ⟨m, hm⟩ : ∃ m, s.params.length = m + 1 := ⟨s.params.length - 1, by omega⟩
  obtain ⟨pb, po, pc, cur, hv, ho, hBp, hpc, hpsz, _⟩ := hS.some_ (hS.ob_ hpos)
  rw [hm] at hv hpc
  subst hv ho
  have hne : pb ≠ q := hS.ne_blk hb (by decide)
  have hne' : q ≠ pb := Ne.symm hne
  have HB := Lib.hid (And.intro hb (And.intro hS (And.intro hBp (And.intro hq (And.intro hop (And.intro hF (And.intro hI' hm)))))))
  have c1 := pc_state hb
  have c2 := pc_mark hb
  have c3 := pc_odd hb
  have c4 := pc_begun hb
  have c5 := pc_over hb
  have c6 := pc_params hb
  have f1 := hb.frozen 1
  have f2 := hb.frozen 2
  have f3 := hb.frozen 3
  have f4 := hb.frozen 4
  have f5 := hb.frozen 5
  have f6 := hb.frozen 6
  have hpl := hb.lt
  have hpbl := hBp.lt
  have hm16 : m ≤ 15 := by omega
  obtain ⟨v, hv⟩ : ∃ v, v = PV.last s.params := ⟨_, rfl⟩
  rw [← hv] at hrng
  have HV := Lib.hid hv
  have cp : w.cell? ⟨pb, po + m, none⟩ = some (.int .i64 v) := by
    have e : s.params[m]? = some v := by rw [hv]; unfold PV.last; rw [List.getD_eq_getElem?_getD, show s.params.length - 1 = m by omega, List.getElem?_eq_getElem (by omega)]; rfl
    have h8 : SlAt w 3 1 (.slice (some ⟨pb, po, none⟩) s.params.length pc) s.params.length (s.params.map (Value.int .i64)) (some pb) := by rw [hm] at hS ⊢; exact hS
    exact h8.cells m _ (by rw [List.getElem?_map, e]; rfl)
  have fp := hBp.frozen (po + m)
  have fin : ∀ (s' : PV.P) (a : PG.G.Act) (ok : Bool) (W : World), PV.csi s r = (s', a, ok) → s'.params = s.params → a.params = [] → (∀ vp, Blk w q 72 (pcells s d vp) → On w W q 72 (pcells s' d vp)) →
      RunPost w q F d (PV.csi s r) (.returned (.tuple #[.agg #[.int .i64 a.kind, .int .i32 a.rune, .bool a.mark, .slice none 0 0], .bool ok])) W := by
    intro s' a ok W e he ha ho
    rw [e] at hI' ⊢
    exact runpost_scalar H.out hI' he ho a ha ok
  have FIN := Lib.hid fin
  clear fin hb hS hBp hq hop hF hI' hI hv hm
  obtain ⟨c, hc⟩ : ∃ c, c = decide (7 ≤ r ∧ r ≤ 13) := ⟨_, rfl⟩
  have HC := Lib.hid hc
  clear hc
  cases c
  rotate_left
  · have hn : 7 ≤ r ∧ r ≤ 13 := by have := HC.out; simpa using this.symm
    have HN := Lib.hid hn
    clear hn
    go_enter Tryd.func44, Tryd.ntmps44
    go_wp2_with fail
    refine (vtcontrol_any _ r true HC.out).mono ?_
    rintro e w' ⟨rfl, rfl⟩
    go_wp2
    refine bodyPost_ret (v := .tuple #[.agg #[.int .i64 2, .int .i32 r, .bool false, .slice none 0 0], .bool true]) (by simp [results, Tryd.results44, go_sem]) rfl (FIN.out s (PV.ctl r) true _ (by unfold PV.csi; rw [if_pos HN.out]) rfl rfl (fun vp hb => ?_))
    (refine on_ex ?_; apply Exists.intro; apply And.intro; (repeat (first | with_reducible apply On.set | with_reducible apply On.drew | with_reducible apply On.alloc | (with_reducible refine On.other ?_ hb.lt (by simp) _))); exact On.refl hb; simp [pcells])
  have hn : ¬ (7 ≤ r ∧ r ≤ 13) := by have := HC.out; simpa using this.symm
  have HN := Lib.hid hn
  clear hn
  by_cases h24 : r = 24
  · subst h24
    go_enter Tryd.func44, Tryd.ntmps44
    go_wp2_with fail
    refine (vtcontrol_any _ 24 false HC.out).mono ?_
    rintro e w' ⟨rfl, rfl⟩
    go_wp2
    refine bodyPost_ret (v := .tuple #[.agg #[.int .i64 0, .int .i32 0, .bool false, .slice none 0 0], .bool false]) (by simp [results, Tryd.results44, go_sem]) rfl (FIN.out { s with state := 0 } PV.noAct false _ (by unfold PV.csi; simp) rfl rfl (fun vp hb => ?_))
    (refine on_ex ?_; apply Exists.intro; apply And.intro; (repeat (first | with_reducible apply On.set | with_reducible apply On.drew | with_reducible apply On.alloc | (with_reducible refine On.other ?_ hb.lt (by simp) _))); exact On.refl hb; simp [pcells])
  by_cases h26 : r = 26
  · subst h26
    go_enter Tryd.func44, Tryd.ntmps44
    go_wp2_with fail
    refine (vtcontrol_any _ 26 false HC.out).mono ?_
    rintro e w' ⟨rfl, rfl⟩
    go_wp2
    refine bodyPost_ret (v := .tuple #[.agg #[.int .i64 0, .int .i32 0, .bool false, .slice none 0 0], .bool false]) (by simp [results, Tryd.results44, go_sem]) rfl (FIN.out { s with state := 0 } PV.noAct false _ (by unfold PV.csi; simp) rfl rfl (fun vp hb => ?_))
    (refine on_ex ?_; apply Exists.intro; apply And.intro; (repeat (first | with_reducible apply On.set | with_reducible apply On.drew | with_reducible apply On.alloc | (with_reducible refine On.other ?_ hb.lt (by simp) _))); exact On.refl hb; simp [pcells])
  have b24 : (r == 24) = false := by simpa using h24
  have b26 : (r == 26) = false := by simpa using h26
  by_cases h127 : 127 < r
  · have d127 : decide (127 < r) = true := by simpa using h127
    go_enter Tryd.func44, Tryd.ntmps44
    go_wp2_with fail
    refine (vtcontrol_any _ r false HC.out).mono ?_
    rintro e w' ⟨rfl, rfl⟩
    go_wp2
    refine bodyPost_ret (v := .tuple #[.agg #[.int .i64 0, .int .i32 0, .bool false, .slice none 0 0], .bool false]) (by simp [results, Tryd.results44, go_sem]) rfl (FIN.out { s with state := 0 } PV.noAct false _ (by unfold PV.csi; rw [if_neg HN.out, if_pos (.inr (.inr h127))]) rfl rfl (fun vp hb => ?_))
    (refine on_ex ?_; apply Exists.intro; apply And.intro; (repeat (first | with_reducible apply On.set | with_reducible apply On.drew | with_reducible apply On.alloc | (with_reducible refine On.other ?_ hb.lt (by simp) _))); exact On.refl hb; simp [pcells])
  have d127 : decide (127 < r) = false := by simpa using h127
  have h1 : ¬ (r = 24 ∨ r = 26 ∨ 127 < r) := by omega
  have H1 := Lib.hid (And.intro HN.out h1)
  clear h1 HN
  by_cases hd : 48 ≤ r ∧ r ≤ 57
  · have d1 : decide (48 ≤ r) = true := by simpa using hd.1
    have d2 : decide (r ≤ 57) = true := by simpa using hd.2
    have hd1 := hd.1
    have hd2 := hd.2
    have he : PV.csi s r = (PV.digit s r, PV.noAct, false) := by unfold PV.csi; rw [if_neg H1.out.1, if_neg H1.out.2, if_pos hd]
    have HE := Lib.hid he
    clear he hd
    cases hov : s.over
    · rw [hov] at c5
      have HOV := Lib.hid hov
      clear hov
      go_enter Tryd.func44, Tryd.ntmps44
      go_wp2_with fail
      refine (vtcontrol_any _ r false HC.out).mono ?_
      rintro e w' ⟨rfl, rfl⟩
      go_wp2
      have hw0 : IntKind.i64.wrap (m : Int) = (m : Int) := IntWalk.i64_in _ (by omega)
      go_region
      clear hw0
      go_wp2
      · refine bodyPost_ret (v := .tuple #[.agg #[.int .i64 0, .int .i32 0, .bool false, .slice none 0 0], .bool false]) (by simp [results, Tryd.results44, go_sem]) rfl ?_
        obtain ⟨hb, hS, hBp, hq, hop, hF, hI', hm⟩ := HB.out
        have hfp := hop pb rfl
        rw [HE.out] at hI' ⊢
        refine digit_at (X := ?X1) hS hBp hq hop hF hI' hm HOV.out ?hx1 ?hb1 ?_ ?_
        case hb1 => exact (((hBp.far (p := ⟨q, 4, none⟩) hne _).set_ (po + m) _).alloc _).drew
        case hx1 => rw [← HV.out]; omega
        · (refine blk_ex ?_; apply Exists.intro; apply And.intro; (repeat (first | with_reducible apply Blk.drew | with_reducible apply Blk.alloc | with_reducible apply Blk.set_ | (with_reducible apply Blk.far_; · first | (simp; done) | (simp; assumption) | (simp; omega)))); exact hb; simp [pcells])
        · (((repeat (first | with_reducible apply Step.drew | with_reducible apply Step.alloc | (with_reducible refine Step.setCell ?_ (.inl hq) _) | (with_reducible refine Step.setCell ?_ (.inl hfp) _) | (with_reducible refine Step.setCell ?_ (.inr (by simp)) _))); exact (Step.refl _ _)))
      · refine bodyPost_ret (v := .tuple #[.agg #[.int .i64 0, .int .i32 0, .bool false, .slice none 0 0], .bool false]) (by simp [results, Tryd.results44, go_sem]) rfl ?_
        obtain ⟨hb, hS, hBp, hq, hop, hF, hI', hm⟩ := HB.out
        have hfp := hop pb rfl
        rw [HE.out] at hI' ⊢
        refine digit_at (X := ?X2) hS hBp hq hop hF hI' hm HOV.out ?hx2 ?hb2 ?_ ?_
        case hb2 => exact (((hBp.far (p := ⟨q, 4, none⟩) hne _).set_ (po + m) _).alloc _).drew
        case hx2 => rw [← HV.out]; omega
        · (refine blk_ex ?_; apply Exists.intro; apply And.intro; (repeat (first | with_reducible apply Blk.drew | with_reducible apply Blk.alloc | with_reducible apply Blk.set_ | (with_reducible apply Blk.far_; · first | (simp; done) | (simp; assumption) | (simp; omega)))); exact hb; simp [pcells])
        · (((repeat (first | with_reducible apply Step.drew | with_reducible apply Step.alloc | (with_reducible refine Step.setCell ?_ (.inl hq) _) | (with_reducible refine Step.setCell ?_ (.inl hfp) _) | (with_reducible refine Step.setCell ?_ (.inr (by simp)) _))); exact (Step.refl _ _)))
    · rw [hov] at c5
      have HOV := Lib.hid hov
      clear hov
      go_enter Tryd.func44, Tryd.ntmps44
      go_wp2_with fail
      refine (vtcontrol_any _ r false HC.out).mono ?_
      rintro e w' ⟨rfl, rfl⟩
      go_wp2
      have hw0 : IntKind.i64.wrap (m : Int) = (m : Int) := IntWalk.i64_in _ (by omega)
      go_region
      clear hw0
      go_wp2
      refine bodyPost_ret (v := .tuple #[.agg #[.int .i64 0, .int .i32 0, .bool false, .slice none 0 0], .bool false]) (by simp [results, Tryd.results44, go_sem]) rfl (FIN.out (PV.digit s r) PV.noAct false _ HE.out (by unfold PV.digit; rw [HOV.out]; rfl) rfl (fun vp hb => ?_))
      have e : PV.digit s r = { s with begun := true } := by unfold PV.digit; simp [HOV.out]
      rw [e]
      (refine on_ex ?_; apply Exists.intro; apply And.intro; (repeat (first | with_reducible apply On.set | with_reducible apply On.drew | with_reducible apply On.alloc | (with_reducible refine On.other ?_ hb.lt (by simp) _))); exact On.refl hb; simp [pcells])
  have h2 : ¬ (48 ≤ r ∧ r ≤ 57) := hd
  have d48 : (decide (48 ≤ r) && decide (r ≤ 57)) = false := by simp; omega
  have H2 := Lib.hid h2
  clear h2 hd
  by_cases h59 : r = 59
  · subst h59
    have he : PV.csi s 59 = (PV.semi s, PV.noAct, false) := by unfold PV.csi; simp
    have HE := Lib.hid he
    clear he d48
    cases hov : s.over
    rotate_left
    · rw [hov] at c5
      have HOV := Lib.hid hov
      clear hov
      go_enter Tryd.func44, Tryd.ntmps44
      go_wp2_with fail
      refine (vtcontrol_any _ 59 false HC.out).mono ?_
      rintro e w' ⟨rfl, rfl⟩
      go_wp2
      refine bodyPost_ret (v := .tuple #[.agg #[.int .i64 0, .int .i32 0, .bool false, .slice none 0 0], .bool false]) (by simp [results, Tryd.results44, go_sem]) rfl (FIN.out (PV.semi s) PV.noAct false _ HE.out (by unfold PV.semi; simp [HOV.out]) rfl (fun vp hb => ?_))
      have e : PV.semi s = { s with begun := true, over := true } := by unfold PV.semi; simp [HOV.out]
      rw [e]
      (refine on_ex ?_; apply Exists.intro; apply And.intro; (repeat (first | with_reducible apply On.set | with_reducible apply On.drew | with_reducible apply On.alloc | (with_reducible refine On.other ?_ hb.lt (by simp) _))); exact On.refl hb; simp [pcells])
    · rw [hov] at c5
      have HOV := Lib.hid hov
      clear hov
      by_cases h16 : m = 15
      · subst h16
        go_enter Tryd.func44, Tryd.ntmps44
        go_wp2_with fail
        refine (vtcontrol_any _ 59 false HC.out).mono ?_
        rintro e w' ⟨rfl, rfl⟩
        go_wp2
        refine bodyPost_ret (v := .tuple #[.agg #[.int .i64 0, .int .i32 0, .bool false, .slice none 0 0], .bool false]) (by simp [results, Tryd.results44, go_sem]) rfl (FIN.out (PV.semi s) PV.noAct false _ HE.out (by have := HB.out.2.2.2.2.2.2.2; unfold PV.semi; simp [HOV.out, this]) rfl (fun vp hb => ?_))
        have e : PV.semi s = { s with begun := true, over := true } := by have := HB.out.2.2.2.2.2.2.2; unfold PV.semi; simp [HOV.out, this]
        rw [e]
        (refine on_ex ?_; apply Exists.intro; apply And.intro; (repeat (first | with_reducible apply On.set | with_reducible apply On.drew | with_reducible apply On.alloc | (with_reducible refine On.other ?_ hb.lt (by simp) _))); exact On.refl hb; simp [pcells])
      · have b16 : ((m : Int) + 1 == 16) = false := by simp; omega
        obtain ⟨i0, hi, hz0, hz1, hz2⟩ := info_parts Tryd.infoInt
        have hVS : SlAt w 3 1 (.slice (some ⟨pb, po, none⟩) (m + 1) pc) (m + 1) (s.params.map (Value.int .i64)) (some pb) := by
          have h8 := HB.out.2.1
          rw [HB.out.2.2.2.2.2.2.2] at h8
          exact h8
        have HVS := Lib.hid hVS
        have hmax : m + 1 + 1 ≤ maxLen := by unfold maxLen; omega
        have hbd : (m + 1 + 1) * 8 ≤ 140737488355328 := by omega
        have hneo : some pb = none ∨ some pb ≠ some q := .inr (fun e => hne (Option.some.inj e))
        clear hVS
        go_enter Tryd.func44, Tryd.ntmps44
        go_wp2_with fail
        refine (vtcontrol_any _ 59 false HC.out).mono ?_
        rintro e w' ⟨rfl, rfl⟩
        go_wp2_with (at_builtin; refine wpList_append_sl _ rfl (.tmp 99) (.tmp 100) 22 22 rfl 3 i0 _ 1 8 Tryd.underlying22 hi hz0 hz1 hz2 rfl (.slice (some ⟨pb, po, none⟩) (m + 1) pc) (m + 1) (s.params.map (Value.int .i64)) (some pb) rfl ?c1 (.slice (some ⟨w.heap.size + 1, 0, none⟩) 1 1) 1 [.int .i64 0] rfl ?c2 hmax hbd ?_)
        case c1 => exact HVS.out.grown (row := some q) (by ((repeat (first | with_reducible apply gb_drew | with_reducible apply gb_alloc | with_reducible apply gb_set | (with_reducible refine gb_new ?_ (by simp) _))); exact gb_refl _ _)) hneo
        case c2 => exact SlAt.src (ob := some (w.heap.size + 1)) (e := 3) ⟨rfl, .inr ⟨_, 0, 1, #[.int .i64 0], rfl, rfl, Blk.new_at (by simp), Nat.le_refl _, by simp, fun i x hx => by simpa using hx⟩⟩ Tryd.underlying22 (by intro u hu; simp at hu; subst hu; rfl)
        intro v2 o2 w2 hS2 hg2 ho2
        obtain ⟨a2, k2, rfl, _⟩ := hS2.form
        have Bq : Blk w2 q 72 (pcells { s with begun := true, over := false } d (.slice (some ⟨pb, po, none⟩) (m + 1) pc)) := Blk.same (by (refine blk_ex ?_; apply Exists.intro; apply And.intro; (repeat (first | with_reducible apply Blk.drew | with_reducible apply Blk.alloc | with_reducible apply Blk.set_ | (with_reducible apply Blk.far_; · first | (simp; done) | (simp; assumption) | (simp; omega)))); exact HB.out.1; simp [pcells])) (hg2.block q (by simp; omega) (fun e => hne (Option.some.inj e).symm))
        have Bx : Blk w2 w.heap.size 59 #[.int .i64 0, .int .i32 0, .bool false, .slice none 0 0] := Blk.same (by exact (Blk.new_at (by simp)).alloc _) (hg2.block w.heap.size (by simp; omega) (fun e => by have := Option.some.inj e; omega))
        have hsz := hg2.size
        have hoq : o2 ≠ some q := by rcases ho2 with h | h <;> rw [h] <;> simp <;> omega
        have hox : o2 ≠ some w.heap.size := by rcases ho2 with h | h <;> rw [h] <;> simp <;> omega
        have hst2 : Step F F w w2 := Step.trans (w1 := _) (by have hq := HB.out.2.2.2.1; (((repeat (first | with_reducible apply Step.drew | with_reducible apply Step.alloc | (with_reducible refine Step.setCell ?_ (.inl hq) _) | (with_reducible refine Step.setCell ?_ (.inl hq) _) | (with_reducible refine Step.setCell ?_ (.inr (by simp)) _))); exact (Step.refl _ _)))) (Step.of_grown hg2 (HB.out.2.2.2.2.1 pb rfl))
        have ho2' : ∀ b, o2 = some b → F b ∨ w.heap.size ≤ b := by
          intro b e
          rcases ho2 with h | h
          · rw [h] at e; cases e; exact .inl (HB.out.2.2.2.2.1 pb rfl)
          · rw [h] at e; cases e; exact .inr (by first | omega | (simp; omega))
        have HS2 := Lib.hid (And.intro hS2 (And.intro Bq (And.intro Bx (And.intro hst2 (And.intro ho2' (And.intro hoq hox))))))
        have k6 : w2.cell? ⟨q, 6, none⟩ = some (.slice (some ⟨pb, po, none⟩) (m + 1) pc) := Bq.cell 6
        have l6 := Bq.frozen 6
        have x0 : w2.cell? ⟨w.heap.size, 0, none⟩ = some (.int .i64 0) := Bx.cell 0
        have x1 : w2.cell? ⟨w.heap.size, 1, none⟩ = some (.int .i32 0) := Bx.cell 1
        have x2 : w2.cell? ⟨w.heap.size, 2, none⟩ = some (.bool false) := Bx.cell 2
        have x3 : w2.cell? ⟨w.heap.size, 3, none⟩ = some (.slice none 0 0) := Bx.cell 3
        have y0 := Bx.frozen 0
        have y1 := Bx.frozen 1
        have y2 := Bx.frozen 2
        have y3 := Bx.frozen 3
        have hpl2 : q < w2.heap.size := Bq.lt
        have hxl2 : w.heap.size < w2.heap.size := Bx.lt
        have hqx : q ≠ w.heap.size := by omega
        clear hS2 Bq Bx hst2 ho2' hoq hox ho2 hg2
        go_wp2
        refine bodyPost_ret (v := .tuple #[.agg #[.int .i64 0, .int .i32 0, .bool false, .slice none 0 0], .bool false]) (by simp [results, Tryd.results44, go_sem, x0, x1, x2, x3]) rfl ?_
        obtain ⟨hS2, Bq, Bx, hst2, ho2', hoq, hox⟩ := HS2.out
        obtain ⟨hb, hS, hBp, hq, hop, hF, hI', hm⟩ := HB.out
        have e : PV.semi s = { s with begun := true, over := false, params := s.params ++ [0] } := by unfold PV.semi; simp [HOV.out, hm]; omega
        rw [HE.out, e] at hI' ⊢
        refine runpost_gen (vp := .slice a2 (m + 1 + 1) k2) (op := o2) (a := PV.noAct) hI' hq hF ?_ ho2' ?_ ?_ rfl false
        · have h9 : SlAt w2 3 1 (.slice a2 (m + 1 + 1) k2) (s.params ++ [0]).length ((s.params ++ [0]).map (Value.int .i64)) o2 := by simpa [hm] using hS2
          ((repeat (first | with_reducible apply SlAt.drew | with_reducible apply SlAt.alloc | (with_reducible refine SlAt.far ?_ (by first | assumption | (simp; done) | (simp; assumption) | (simp; omega)) _))); exact h9)
        · (refine blk_ex ?_; apply Exists.intro; apply And.intro; (repeat (first | with_reducible apply Blk.drew | with_reducible apply Blk.alloc | with_reducible apply Blk.set_ | (with_reducible apply Blk.far_; · first | (simp; done) | (simp; assumption) | (simp; omega)))); exact Bq; simp [pcells])
        · ((repeat (first | with_reducible apply Step.drew | with_reducible apply Step.alloc | (with_reducible refine Step.setCell ?_ (.inl hq) _) | (with_reducible refine Step.setCell ?_ (.inl hq) _) | (with_reducible refine Step.setCell ?_ (.inr (by simp)) _))); exact hst2)
  have b59 : (r == 59) = false := by simpa using h59
  have H3 := Lib.hid h59
  clear h59
  have base : ∀ x : PV.P × PG.G.Act × Bool, (if r = 63 ∧ s.begun = false then ({ s with begun := true, mark := true }, PV.noAct, false)
      else if 32 ≤ r ∧ r ≤ 63 then ({ s with begun := true, odd := true }, PV.noAct, false)
      else if 64 ≤ r ∧ r ≤ 126 then (if s.odd then ({ s with state := 0 }, PV.noAct, false) else ({ s with state := 0 }, ⟨4, r, s.mark, s.params⟩, true))
      else (s, PV.noAct, false)) = x → PV.csi s r = x := by
    intro x hx
    unfold PV.csi
    rw [if_neg H1.out.1, if_neg H1.out.2, if_neg H2.out, if_neg H3.out]
    exact hx
  have BASE := Lib.hid base
  clear base
  have odd : ∀ hr : 32 ≤ r ∧ r ≤ 63, ¬ (r = 63 ∧ s.begun = false) → PV.csi s r = ({ s with begun := true, odd := true }, PV.noAct, false) := fun hr hn => BASE.out _ (by rw [if_neg hn, if_pos hr])
  have ODD := Lib.hid odd
  clear odd
  by_cases h63 : r = 63
  · subst h63
    cases hbg : s.begun
    · rw [hbg] at c4
      have HBG := Lib.hid hbg
      clear hbg
      go_enter Tryd.func44, Tryd.ntmps44
      go_wp2_with fail
      refine (vtcontrol_any _ 63 false HC.out).mono ?_
      rintro e w' ⟨rfl, rfl⟩
      go_wp2
      refine bodyPost_ret (v := .tuple #[.agg #[.int .i64 0, .int .i32 0, .bool false, .slice none 0 0], .bool false]) (by simp [results, Tryd.results44, go_sem]) rfl (FIN.out { s with begun := true, mark := true } PV.noAct false _ (by exact BASE.out _ (by simp [HBG.out])) rfl rfl (fun vp hb => ?_))
      (refine on_ex ?_; apply Exists.intro; apply And.intro; (repeat (first | with_reducible apply On.set | with_reducible apply On.drew | with_reducible apply On.alloc | (with_reducible refine On.other ?_ hb.lt (by simp) _))); exact On.refl hb; simp [pcells])
    · rw [hbg] at c4
      have HBG := Lib.hid hbg
      clear hbg
      go_enter Tryd.func44, Tryd.ntmps44
      go_wp2_with fail
      refine (vtcontrol_any _ 63 false HC.out).mono ?_
      rintro e w' ⟨rfl, rfl⟩
      go_wp2
      refine bodyPost_ret (v := .tuple #[.agg #[.int .i64 0, .int .i32 0, .bool false, .slice none 0 0], .bool false]) (by simp [results, Tryd.results44, go_sem]) rfl (FIN.out { s with begun := true, odd := true } PV.noAct false _ (by exact ODD.out (by omega) (by rw [HBG.out]; simp)) rfl rfl (fun vp hb => ?_))
      (refine on_ex ?_; apply Exists.intro; apply And.intro; (repeat (first | with_reducible apply On.set | with_reducible apply On.drew | with_reducible apply On.alloc | (with_reducible refine On.other ?_ hb.lt (by simp) _))); exact On.refl hb; simp [pcells])
  have b63 : (r == 63) = false := by simpa using h63
  by_cases h32 : 32 ≤ r ∧ r ≤ 63
  · have d1 : decide (32 ≤ r) = true := by simpa using h32.1
    have d2 : decide (r ≤ 63) = true := by simpa using h32.2
    by_cases h48 : 48 ≤ r
    · have d3 : decide (48 ≤ r) = true := by simpa using h48
      have d4 : decide (r ≤ 57) = false := by have := H2.out; simp; omega
      go_enter Tryd.func44, Tryd.ntmps44
      go_wp2_with fail
      refine (vtcontrol_any _ r false HC.out).mono ?_
      rintro e w' ⟨rfl, rfl⟩
      go_wp2
      refine bodyPost_ret (v := .tuple #[.agg #[.int .i64 0, .int .i32 0, .bool false, .slice none 0 0], .bool false]) (by simp [results, Tryd.results44, go_sem]) rfl (FIN.out { s with begun := true, odd := true } PV.noAct false _ (by exact ODD.out h32 (fun h => h63 h.1)) rfl rfl (fun vp hb => ?_))
      (refine on_ex ?_; apply Exists.intro; apply And.intro; (repeat (first | with_reducible apply On.set | with_reducible apply On.drew | with_reducible apply On.alloc | (with_reducible refine On.other ?_ hb.lt (by simp) _))); exact On.refl hb; simp [pcells])
    · have d3 : decide (48 ≤ r) = false := by simpa using h48
      go_enter Tryd.func44, Tryd.ntmps44
      go_wp2_with fail
      refine (vtcontrol_any _ r false HC.out).mono ?_
      rintro e w' ⟨rfl, rfl⟩
      go_wp2
      refine bodyPost_ret (v := .tuple #[.agg #[.int .i64 0, .int .i32 0, .bool false, .slice none 0 0], .bool false]) (by simp [results, Tryd.results44, go_sem]) rfl (FIN.out { s with begun := true, odd := true } PV.noAct false _ (by exact ODD.out h32 (fun h => h63 h.1)) rfl rfl (fun vp hb => ?_))
      (refine on_ex ?_; apply Exists.intro; apply And.intro; (repeat (first | with_reducible apply On.set | with_reducible apply On.drew | with_reducible apply On.alloc | (with_reducible refine On.other ?_ hb.lt (by simp) _))); exact On.refl hb; simp [pcells])
  have d32 : (decide (32 ≤ r) && decide (r ≤ 63)) = false := by simp; omega
  by_cases h64 : 64 ≤ r ∧ r ≤ 126
  · have d1 : decide (64 ≤ r) = true := by simpa using h64.1
    have d2 : decide (r ≤ 126) = true := by simpa using h64.2
    have dg : decide (32 ≤ r) = true := by simp; omega
    have dh : decide (r ≤ 63) = false := by simp; omega
    have di : decide (48 ≤ r) = true := by simp; omega
    have dj : decide (r ≤ 57) = false := by simp; omega
    cases hod : s.odd
    rotate_left
    · rw [hod] at c3
      have HOD := Lib.hid hod
      clear hod
      go_enter Tryd.func44, Tryd.ntmps44
      go_wp2_with fail
      refine (vtcontrol_any _ r false HC.out).mono ?_
      rintro e w' ⟨rfl, rfl⟩
      go_wp2
      refine bodyPost_ret (v := .tuple #[.agg #[.int .i64 0, .int .i32 0, .bool false, .slice none 0 0], .bool false]) (by simp [results, Tryd.results44, go_sem]) rfl (FIN.out { s with state := 0 } PV.noAct false _ (by exact BASE.out _ (by rw [if_neg (fun h => h63 h.1), if_neg h32, if_pos h64, HOD.out]; rfl)) rfl rfl (fun vp hb => ?_))
      (refine on_ex ?_; apply Exists.intro; apply And.intro; (repeat (first | with_reducible apply On.set | with_reducible apply On.drew | with_reducible apply On.alloc | (with_reducible refine On.other ?_ hb.lt (by simp) _))); exact On.refl hb; simp [pcells])
    · rw [hod] at c3
      have HOD := Lib.hid hod
      clear hod
      obtain ⟨i0, hi, hz0, hz1, hz2⟩ := info_parts Tryd.infoInt
      have hVS : SlAt w 3 1 (.slice (some ⟨pb, po, none⟩) (m + 1) pc) (m + 1) (s.params.map (Value.int .i64)) (some pb) := by
        have h8 := HB.out.2.1
        rw [HB.out.2.2.2.2.2.2.2] at h8
        exact h8
      have HVS := Lib.hid hVS
      have hmax : 0 + (m + 1) ≤ maxLen := by unfold maxLen; omega
      have hbd : (0 + (m + 1)) * 8 ≤ 140737488355328 := by omega
      have hneo : some pb = none ∨ some pb ≠ some q := .inr (fun e => hne (Option.some.inj e))
      clear hVS
      go_enter Tryd.func44, Tryd.ntmps44
      go_wp2_with fail
      refine (vtcontrol_any _ r false HC.out).mono ?_
      rintro e w' ⟨rfl, rfl⟩
      go_wp2_with fail
      go_region_law (refine step_append_sl _ (by rfl) (.tmp 149) (.tmp 153) 22 22 (by rfl) 3 i0 _ 1 8 Tryd.underlying22 hi hz0 hz1 hz2 rfl (.slice (some ⟨w.heap.size + 1, 0, none⟩) 0 0) 0 [] (some (w.heap.size + 1)) (by go_simp) (by exact ⟨by simp, .inr ⟨_, 0, 0, #[], rfl, rfl, by first | exact Blk.new_at (by simp) | exact (Blk.new_at (by simp)).drew, Nat.le_refl _, by simp, fun i x hx => by simp at hx⟩⟩) (.slice (some ⟨pb, po, none⟩) (m + 1) pc) (m + 1) (s.params.map (Value.int .i64)) (by go_simp) (by exact SlAt.src (HVS.out.grown (row := some q) (by ((repeat (first | with_reducible apply gb_drew | with_reducible apply gb_alloc | with_reducible apply gb_set | (with_reducible refine gb_new ?_ (by simp) _))); exact gb_refl _ _)) hneo) Tryd.underlying22 (ints_one _)) hmax hbd ?_; intro v2 o2 w2 hS2 hg2 ho2; obtain ⟨a2, k2, rfl, _⟩ := hS2.form; have BQ := Lib.hid (show Blk w2 q 72 (pcells { s with state := 0 } d (.slice (some ⟨pb, po, none⟩) (m + 1) pc)) from Blk.same (by (refine blk_ex ?_; apply Exists.intro; apply And.intro; (repeat (first | with_reducible apply Blk.drew | with_reducible apply Blk.alloc | with_reducible apply Blk.set_ | (with_reducible apply Blk.far_; · first | (simp; done) | (simp; assumption) | (simp; omega)))); exact HB.out.1; simp [pcells])) (hg2.block q (by simp; omega) (fun e => by have := Option.some.inj e; omega))); have BX := Lib.hid (show Blk w2 w.heap.size 59 #[.int .i64 0, .int .i32 0, .bool false, .slice none 0 0] from Blk.same (by first | exact (Blk.new_at (by simp)).alloc _ | exact ((Blk.new_at (by simp)).alloc _).drew | exact ((Blk.new_at (by simp)).drew).alloc _) (hg2.block w.heap.size (by simp; omega) (fun e => by have := Option.some.inj e; omega))); have k2' : w2.cell? ⟨q, 2, none⟩ = some (.bool s.mark) := BQ.out.cell 2; have k6' : w2.cell? ⟨q, 6, none⟩ = some (.slice (some ⟨pb, po, none⟩) (m + 1) pc) := BQ.out.cell 6; have x0 : w2.cell? ⟨w.heap.size, 0, none⟩ = some (.int .i64 0) := BX.out.cell 0; have x1 : w2.cell? ⟨w.heap.size, 1, none⟩ = some (.int .i32 0) := BX.out.cell 1; have x2 : w2.cell? ⟨w.heap.size, 2, none⟩ = some (.bool false) := BX.out.cell 2; have x3 : w2.cell? ⟨w.heap.size, 3, none⟩ = some (.slice none 0 0) := BX.out.cell 3; have y0 := BX.out.frozen 0; have y1 := BX.out.frozen 1; have y2 := BX.out.frozen 2; have y3 := BX.out.frozen 3)
      all_goals
        go_wp2
        refine bodyPost_ret (v := .tuple #[.agg #[.int .i64 4, .int .i32 r, .bool s.mark, .slice a2 (0 + (m + 1)) k2], .bool true]) (by simp [results, Tryd.results44, go_sem, x0, x1, x2, x3]) rfl ?_
        obtain ⟨hb, hS, hBp, hq, hop, hF, hI', hm⟩ := HB.out
        have hsz : w.heap.size ≤ w2.heap.size := by have := hg2.size; simp at this; omega
        have hso : ∀ b, o2 = some b → w.heap.size < b := by
          intro b e
          rcases ho2 with h | h <;> rw [h] at e <;> cases e <;> (first | omega | (simp; omega))
        have e : PV.csi s r = ({ s with state := 0 }, ⟨4, r, s.mark, s.params⟩, true) := BASE.out _ (by rw [if_neg (fun h => h63 h.1), if_neg h32, if_pos h64, HOD.out]; rfl)
        rw [e] at hI' ⊢
        have hsp : SlAt w2 3 1 (.slice (some ⟨pb, po, none⟩) (m + 1) pc) s.params.length (s.params.map (Value.int .i64)) (some pb) := (hS.grown (row := some q) (by ((repeat (first | with_reducible apply gb_drew | with_reducible apply gb_alloc | with_reducible apply gb_set | (with_reducible refine gb_new ?_ (by simp) _))); exact gb_refl _ _)) hneo).grown hg2 (.inr (fun e => by have := Option.some.inj e; omega))
        have hst2 : Step F F w w2 := Step.of_new (w1 := _) (by (((repeat (first | with_reducible apply Step.drew | with_reducible apply Step.alloc | (with_reducible refine Step.setCell ?_ (.inl hq) _) | (with_reducible refine Step.setCell ?_ (.inl hq) _) | (with_reducible refine Step.setCell ?_ (.inr (by simp)) _))); exact (Step.refl _ _)))) hg2 (by omega)
        refine ⟨.slice a2 (0 + (m + 1)) k2, o2, F, rfl, ?_, fun b e => ⟨by have := hso b e; omega, fun h => by have := hso b e; have := hF b h; omega⟩, ⟨hI', fun b h => ?_, .slice (some ⟨pb, po, none⟩) (m + 1) pc, some pb, ?_, ?_, hq, hop⟩, ?_⟩
        · have h9 : SlAt w2 3 1 (.slice a2 (0 + (m + 1)) k2) s.params.length (s.params.map (Value.int .i64)) o2 := by simpa [hm] using hS2
          have hox : o2 ≠ some w.heap.size := fun e => by have := hso _ e; omega
          unfold ParamsAt
          ((repeat (first | with_reducible apply SlAt.drew | with_reducible apply SlAt.alloc | (with_reducible refine SlAt.far ?_ (by first | assumption | (simp; done) | (simp; assumption) | (simp; omega)) _))); exact h9)
        · have := hF b h
          simp
          omega
        · (refine blk_ex ?_; apply Exists.intro; apply And.intro; (repeat (first | with_reducible apply Blk.drew | with_reducible apply Blk.alloc | with_reducible apply Blk.set_ | (with_reducible apply Blk.far_; · first | (simp; done) | (simp; assumption) | (simp; omega)))); exact BQ.out; simp [pcells])
        · ((repeat (first | with_reducible apply SlAt.drew | with_reducible apply SlAt.alloc | (with_reducible refine SlAt.far ?_ (by first | assumption | (simp; done) | (simp; assumption) | (simp; omega)) _))); exact hsp)
        · ((repeat (first | with_reducible apply Step.drew | with_reducible apply Step.alloc | (with_reducible refine Step.setCell ?_ (.inl hq) _) | (with_reducible refine Step.setCell ?_ (.inl hq) _) | (with_reducible refine Step.setCell ?_ (.inr (by simp)) _))); exact hst2)
  · have hfin : PV.csi s r = (s, PV.noAct, false) := BASE.out _ (by rw [if_neg (fun h => h63 h.1), if_neg h32, if_neg h64])
    have HFIN := Lib.hid hfin
    clear hfin
    by_cases hlo : r < 32
    · have di : decide (48 ≤ r) = false := by simp; omega
      have dj : decide (32 ≤ r) = false := by simp; omega
      have dk : decide (64 ≤ r) = false := by simp; omega
      go_enter Tryd.func44, Tryd.ntmps44
      go_wp2_with fail
      refine (vtcontrol_any _ r false HC.out).mono ?_
      rintro e w' ⟨rfl, rfl⟩
      go_wp2
      refine bodyPost_ret (v := .tuple #[.agg #[.int .i64 0, .int .i32 0, .bool false, .slice none 0 0], .bool false]) (by simp [results, Tryd.results44, go_sem]) rfl (FIN.out s PV.noAct false _ (by exact HFIN.out) rfl rfl (fun vp hb => ?_))
      (refine on_ex ?_; apply Exists.intro; apply And.intro; (repeat (first | with_reducible apply On.set | with_reducible apply On.drew | with_reducible apply On.alloc | (with_reducible refine On.other ?_ hb.lt (by simp) _))); exact On.refl hb; simp [pcells])
    · obtain rfl : r = 127 := by have := H1.out.2; omega
      go_enter Tryd.func44, Tryd.ntmps44
      go_wp2_with fail
      refine (vtcontrol_any _ 127 false HC.out).mono ?_
      rintro e w' ⟨rfl, rfl⟩
      go_wp2
      refine bodyPost_ret (v := .tuple #[.agg #[.int .i64 0, .int .i32 0, .bool false, .slice none 0 0], .bool false]) (by simp [results, Tryd.results44, go_sem]) rfl (FIN.out s PV.noAct false _ (by exact HFIN.out) rfl rfl (fun vp hb => ?_))
      (refine on_ex ?_; apply Exists.intro; apply And.intro; (repeat (first | with_reducible apply On.set | with_reducible apply On.drew | with_reducible apply On.alloc | (with_reducible refine On.other ?_ hb.lt (by simp) _))); exact On.refl hb; simp [pcells])

end Go.Proofs.YtdbepelcgmnbbaaDoor
