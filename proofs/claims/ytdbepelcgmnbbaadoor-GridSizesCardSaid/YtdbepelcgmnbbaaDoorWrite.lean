/- Bytes are written to a screen. -/
import Derived.Test.YtdbepelcgmnbbaaDoorVtFeed
namespace Go.Proofs.YtdbepelcgmnbbaaDoor
open Go Go.RowKit

/-- The plain screen with its parser. -/
structure PT where
  g : PG.G
  s : PV.P
  held : List UInt8

def PT.new (rows cols : Nat) : PT := ⟨PG.new rows cols, PV.fresh, []⟩
def PT.acts (t : PT) (bs : List UInt8) : PV.P × List PG.G.Act := PV.feed t.s (PV.runes ⟨((t.held ++ bs).take (PV.whole (t.held ++ bs))).toArray⟩)
def PT.write (t : PT) (bs : List UInt8) : PT := ⟨(t.acts bs).2.foldl PG.G.act t.g, (t.acts bs).1, (t.held ++ bs).drop (PV.whole (t.held ++ bs))⟩

theorem feed_len (p : PV.P) (rs : List Int) : (PV.feed p rs).2.length ≤ rs.length := by
  have H : ∀ (rs : List Int) (s : PV.P × List PG.G.Act), (rs.foldl PV.step s).2.length ≤ s.2.length + rs.length := by
    intro rs
    induction rs with
    | nil => intro s; exact Nat.le_refl _
    | cons r rs ih =>
      intro s
      have h1 := ih (PV.step s r)
      have h2 : (PV.step s r).2.length ≤ s.2.length + 1 := by unfold PV.step; simp only; split <;> simp
      simp only [List.foldl_cons, List.length_cons]
      omega
  have := H rs (p, [])
  simpa [PV.feed] using this
theorem PT.acts_len (t : PT) (bs : List UInt8) : (t.acts bs).2.length ≤ t.held.length + bs.length := by
  refine Nat.le_trans (feed_len _ _) (Nat.le_trans (PV.length_runesFrom _ _ _) ?_)
  simp [ByteArray.size]
  omega

/-- A method of a screen has left it as t. -/
def TPost (w : World) (p : Nat) (F : Nat → Prop) (t : PT) (e : Ending) (w' : World) : Prop := ∃ F', e = .returned (.tuple #[]) ∧ TermAt w' p F' t.g t.s t.held ∧ Step F F' w w'

theorem ParserAt.keep {w w' : World} {q : Nat} {F G G' : Nat → Prop} {s : PV.P} {held : List UInt8} (h : ParserAt w q F s held) (hs : Step G G' w w') (hd : ∀ b, F b → ¬ G b) : ParserAt w' q F s held := by
  obtain ⟨h1, h2, F1, d, vh, oh, y1, y2, y3, y4, y5, y6, y7, y8⟩ := h
  exact ⟨h1, fun b hb => Nat.lt_of_lt_of_le (h2 b hb) hs.size, F1, d, vh, oh, y1.keep hs (fun b hb => hd b (y4 b hb)), hs.blk y2 (hd d y5), y3.step hs (fun b e => hd b (y6 b e)), y4, y5, y6, y7, y8⟩
theorem TermAt.keep {w w' : World} {p : Nat} {F G G' : Nat → Prop} {g : PG.G} {s : PV.P} {held : List UInt8} (h : TermAt w p F g s held) (hs : Step G G' w w') (hd : ∀ b, F b → ¬ G b) : TermAt w' p F g s held := by
  obtain ⟨q, Fg, Fq, h1, h2, h3, h4, h5, h6⟩ := h
  exact ⟨q, Fg, Fq, h1.keep hs (fun b hb => hd b (h4 b hb)), h2.keep hs (fun b hb => hd b (h5 b hb)), h3, h4, h5, fun b hb => Nat.lt_of_lt_of_le (h6 b hb) hs.size⟩
theorem TermAt.below {w w' : World} {p : Nat} {F : Nat → Prop} {g : PG.G} {s : PV.P} {held : List UInt8} (h : TermAt w p F g s held) (hb : Below w.heap.size w w') : TermAt w' p F g s held :=
  h.keep (G := fun _ => False) (G' := fun _ => False) ⟨hb.os, hb.tape, hb.output, hb.size, fun k hk _ => hb.block k hk, fun _ h => h.elim⟩ (fun _ _ h => h)

def WriteRel (w : World) (p : Nat) (F : Nat → Prop) (g : PG.G) (aq : Option Addr) (acts : List PG.G.Act) (i : Value) (wr : World) : Prop :=
  ∃ (k : Nat) (F' : Nat → Prop), k ≤ acts.length ∧ i = .int .i64 k ∧ GridAt wr p F' ((acts.take k).foldl PG.G.act g) (.pointer aq) ∧ Step F F' w wr

set_option maxRecDepth 20000 in
set_option maxHeartbeats 4000000 in
theorem write_any {w : World} (hT : Lib.Utf8Tabs 2 3 w) {p : Nat} {F : Nat → Prop} {t : PT} (h : TermAt w p F t.g t.s t.held) (bs : List UInt8) (a : Option Addr) (c : Nat) (hb : CellsFrom w a (bs.map bval)) (hac : a = none → c = 0) (hsz : bs.length ≤ 1000000000000) :
    Calls Tryd.prog 10 #[.pointer (some ⟨p, 0, none⟩), .slice a bs.length c] w (TPost w p F (t.write bs)) := by
  obtain ⟨q, Fg, Fq, hg, hq, hdis, hFg, hFq, hlt⟩ := h
  obtain ⟨_, _, _, _, hbg⟩ := hg.blk
  have c32 := gc_parser hbg
  have hcall := vtFeed_any hT hq bs a c hb hac hsz
  obtain ⟨x, hx⟩ : ∃ x, x = t.acts bs := ⟨_, rfl⟩
  obtain ⟨hd', hhd⟩ : ∃ x, x = (t.held ++ bs).drop (PV.whole (t.held ++ bs)) := ⟨_, rfl⟩
  have hcall2 : Calls Tryd.prog 19 #[.pointer (some ⟨q, 0, none⟩), .slice a bs.length c] w (ActsPost w q Fq x hd') := by rw [hx, hhd]; exact hcall
  have hok : ∀ b ∈ x.2, PV.ActOk b ∧ b.rune ≤ 2147483647 := by
    rw [hx]
    obtain ⟨_, _, F1, d, vh, oh, hrun, _⟩ := hq
    exact PV.feed_ok _ hrun.1 (fun r hr => (PV.runesFrom_le _ _ _ r hr).2)
  have hxl : x.2.length ≤ 1000000000003 := by
    rw [hx]
    have := PT.acts_len t bs
    have := hq.1
    omega
  have hw : t.write bs = ⟨x.2.foldl PG.G.act t.g, x.1, hd'⟩ := by unfold PT.write; rw [hx, hhd]
  rw [hw]
  have HC := Lib.hid hcall2
  have HI := Lib.hid (And.intro hg (And.intro hq (And.intro hdis (And.intro hFg (And.intro hFq (And.intro hlt hok))))))
  obtain ⟨m, hm⟩ : ∃ m, m = bs.length := ⟨_, rfl⟩
  rw [← hm] at HC ⊢
  clear hcall hcall2 hg hq hdis hFg hFq hlt hbg hx hhd hw hT hb hac hsz hm hok
  go_enter Tryd.func10, Tryd.ntmps10
  go_wp2_with fail
  refine HC.out.mono ?_
  rintro e w1 ⟨v1, ob1, R, Fq1, rfl, hRa, hS1, hob1, hRs, hq1, hst1⟩
  obtain ⟨a1, k1, rfl, _⟩ := hS1.form
  obtain ⟨n, hn⟩ : ∃ n, n = R.length := ⟨_, rfl⟩
  rw [← hn] at hS1 ⊢
  have hnb : n ≤ 1000000000003 := by rw [hn]; rw [← hRa] at hxl; simpa using hxl
  have hg1 : GridAt w1 p Fg t.g (.pointer (some ⟨q, 0, none⟩)) := HI.out.1.keep hst1 HI.out.2.2.1
  have hnew : ∀ b, w.heap.size ≤ b → ¬ Fg b := fun b h1 h2 => by have := HI.out.1.2.1 b h2; omega
  have H1 := Lib.hid (And.intro hRa (And.intro hS1 (And.intro hob1 (And.intro hRs (And.intro hq1 (And.intro hst1 (And.intro hn (And.intro hg1 hnew))))))))
  clear hRa hS1 hob1 hRs hq1 hst1 hn hg1 hnew
  go_wp2_with fail
  go_loopw [5, 13] (fun _ i wr => WriteRel w1 p Fg t.g (some ⟨q, 0, none⟩) (R.map AR.a) i wr) (fun _ i _ => n - (intOf i).toNat)
  case atStart => exact ⟨0, Fg, Nat.zero_le _, rfl, H1.out.2.2.2.2.2.2.2.1, Step.refl _ _⟩
  case round =>
    obtain ⟨k, F', hk, rfl, hG, hst⟩ := hrel
    by_cases hlt : k < n
    · have hli : (k : Int) < (n : Int) := by omega
      have hl0 : (0 : Int) ≤ (k : Int) := by omega
      have hkr : k < R.length := by have := H1.out.2.2.2.2.2.2.1; omega
      obtain ⟨rb, ro, rc, rcur, e1, e2, hrB, _⟩ := H1.out.2.1.some_ (H1.out.2.1.ob_ (by omega))
      cases e1
      obtain ⟨y, hy⟩ : ∃ y, y = R[k] := ⟨_, rfl⟩
      have hyk : R[k]? = some y := by rw [List.getElem?_eq_getElem hkr, hy]
      have hym : y ∈ R := by rw [hy]; exact List.getElem_mem hkr
      obtain ⟨hyp, hyo⟩ := H1.out.2.2.2.1 y hym
      obtain ⟨hok1, hok2⟩ := HI.out.2.2.2.2.2.2 y.a (by rw [← H1.out.1]; exact List.mem_map_of_mem hym)
      have hfold2 : ((R.map AR.a).take (k + 1)).foldl PG.G.act t.g = PG.G.act (((R.map AR.a).take k).foldl PG.G.act t.g) y.a := by
        rw [List.take_succ_eq_append_getElem (by simpa using hkr), List.foldl_append]
        simp [hy]
      obtain ⟨g', hg'⟩ : ∃ g', g' = ((R.map AR.a).take k).foldl PG.G.act t.g := ⟨_, rfl⟩
      rw [← hg'] at hfold2 hG
      have hnF : ∀ b, b < w1.heap.size → w.heap.size ≤ b → ¬ F' b := fun b h1 h2 h3 => by
        rcases hst.sub b h3 with h | h
        · exact H1.out.2.2.2.2.2.2.2.2 b h2 h
        · omega
      obtain ⟨z0, z1, z2, z3⟩ := aflat_get R k y hyk
      have hcell : ∀ j v, (aflat R)[j]? = some v → wr.cell? ⟨rb, ro + j, none⟩ = some v := fun j v hj => hst.cell (H1.out.2.1.cells j v hj) (H1.out.2.2.2.2.2.2.2.2 rb (H1.out.2.2.1 rb e2).1)
      obtain ⟨⟨kd, rr, mk, ps⟩, pv, po⟩ := y
      simp only at hyp hyo hok1 hok2 hfold2 z0 z1 z2 z3
      obtain ⟨pa, pk, rfl⟩ := ParamsAt.form hyp
      have k0 : wr.cell? ⟨rb, ro + k * 4, none⟩ = some (.int .i64 kd) := hcell _ _ z0
      have k1 : wr.cell? ⟨rb, ro + k * 4 + 1, none⟩ = some (.int .i32 rr) := by rw [Nat.add_assoc]; exact hcell _ _ z1
      have k2 : wr.cell? ⟨rb, ro + k * 4 + 2, none⟩ = some (.bool mk) := by rw [Nat.add_assoc]; exact hcell _ _ z2
      have k3 : wr.cell? ⟨rb, ro + k * 4 + 3, none⟩ = some (.slice pa ps.length pk) := by rw [Nat.add_assoc]; exact hcell _ _ z3
      have hyp2 : ParamsAt wr (.slice pa ps.length pk) ps po := SlAt.step hyp hst (fun b e => H1.out.2.2.2.2.2.2.2.2 b (hyo b e).1)
      have hob2 : ∀ b, po = some b → ¬ F' b := fun b e => hnF b (SlAt.lt hyp b e) (hyo b e).1
      have hrune : (kd : Int) = 1 → PG.RuneOk rr := fun e => ⟨(hok1.1 e).1, (hok1.1 e).2, hok2⟩
      have HW := Lib.hid (And.intro hG (And.intro hst (And.intro hfold2 (And.intro hyp2 (And.intro hob2 (And.intro hok1 hrune))))))
      clear hG hst hfold2 hyp hyo hyp2 hob2 hok1 hok2 hrune hcell z0 z1 z2 z3 hy hyk hym hnF hrB e2 hg'
      go_wp2_with fail
      refine (do_any (by exact HW.out.1.alloc _) ⟨kd, rr, mk, ps⟩ (.slice pa ps.length pk) po (by exact SlAt.alloc HW.out.2.2.2.1 _) HW.out.2.2.2.2.1 (Nat.le_trans HW.out.2.2.2.2.2.1.2.1 (by omega)) HW.out.2.2.2.2.2.1.2.2 HW.out.2.2.2.2.2.2).mono ?_
      rintro e w4 ⟨F4, rfl, hG4, hst4⟩
      have H4 := Lib.hid (And.intro hG4 hst4)
      clear hG4 hst4
      go_wp2
      go_simp
      go_roundw
      case rel => exact ⟨k + 1, F4, by have := H1.out.2.2.2.2.2.2.1; simp; omega, by go_num, by rw [HW.out.2.2.1]; exact H4.out.1, HW.out.2.1.trans (Step.alloc_left H4.out.2)⟩
      case measure => simp [intOf]; omega
    · have HEND := Lib.hid (And.intro hG hst)
      have hkn : n ≤ k := by omega
      clear hG hst
      go_wp2
      go_end0
      obtain ⟨hG, hst⟩ := HEND.out
      obtain ⟨hRa, hS1, hob1, hRs, hq1, hst1, hn, hg1, hnew⟩ := H1.out
      obtain ⟨hg, hq, hdis, hFg, hFq, hltF, hok⟩ := HI.out
      rw [show (R.map AR.a).take k = R.map AR.a from List.take_of_length_le (by simp; omega), hRa] at hG
      have hq1lt := hq1.2.1
      have hqn : ∀ b, Fq1 b → ¬ Fg b := fun b hb hg' => by
        rcases hst1.sub b hb with h | h
        · exact hdis b hg' h
        · exact hnew b h hg'
      have hq2 : ParserAt wr q Fq1 x.1 hd' := hq1.keep hst hqn
      have hs1 := hst1.size
      refine ⟨fun b => F' b ∨ Fq1 b, rfl, ⟨q, F', Fq1, hG, hq2, fun b h1 h2 => ?_, fun b h => .inl h, fun b h => .inr h, fun b h => ?_⟩, ?_⟩
      · rcases hst.sub b h1 with h | h
        · exact hqn b h2 h
        · have := hq1lt b h2; omega
      · rcases h with h | h
        · exact hG.2.1 b h
        · exact hq2.2.1 b h
      · refine ⟨hst.os.trans hst1.os, hst.tape.trans hst1.tape, hst.output.trans hst1.output, Nat.le_trans hs1 hst.size, fun b hb hn => ?_, fun b hb => ?_⟩
        · exact (hst.block b (by omega) (fun h => hn (hFg b h))).trans (hst1.block b hb (fun h => hn (hFq b h)))
        · rcases hb with hb | hb
          · rcases hst.sub b hb with h | h
            · exact .inl (hFg b h)
            · exact .inr (by omega)
          · rcases hst1.sub b hb with h | h
            · exact .inl (hFq b h)
            · exact .inr h

end Go.Proofs.YtdbepelcgmnbbaaDoor
