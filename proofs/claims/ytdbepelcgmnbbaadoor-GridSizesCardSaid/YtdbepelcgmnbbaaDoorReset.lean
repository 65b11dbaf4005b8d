/- A grid is set anew. -/
import Derived.Test.YtdbepelcgmnbbaaDoorAlt
import Derived.Test.YtdbepelcgmnbbaaDoorEdit
namespace Go.Proofs.YtdbepelcgmnbbaaDoor
open Go Go.RowKit

/-- All but the past and the sizes is struck. -/
def bare (rows cols : Nat) (past : List PG.Line) : PG.G := { rows, cols, cells := [], at_ := PG.zeroCur, saved := PG.zeroCur, top := 0, bottom := 0, wrap := false, insert := false, hidden := false, tabs := [], other := none, away := PG.zeroCur, past }

abbrev nilv : Value := .slice none 0 0

/-- The tab stops, one by one. -/
def StopsRel (w : World) (p : Nat) (rows cols : Nat) (past : List PG.Line) (vc vp vq : Value) (bc : Option Nat) (rc : List Nat) (i : Value) (wr : World) : Prop :=
  ∃ (k : Nat) (vt : Value) (bt : Option Nat), k ≤ cols ∧ i = .int .i64 k ∧ On w wr p 52 (gcells { PG.fresh rows cols past with tabs := [] } vc vt nilv vp vq) ∧ RowsAt wr vc (PG.sheet rows cols) bc rc ∧
    SlAt wr 4 1 vt k (((PG.stops cols).take k).map Value.bool) bt ∧ (∀ b, bt = some b → w.heap.size ≤ b)

theorem stops_snoc (cols k : Nat) (h : k < cols) : (PG.stops cols).take (k + 1) = (PG.stops cols).take k ++ [decide (0 < k) && decide (k % 8 = 0)] := by
  have hl : k < (PG.stops cols).length := by simp [PG.stops]; exact h
  rw [List.take_succ_eq_append_getElem hl]
  simp [PG.stops]

theorem On.grown {w W W' : World} {p : Nat} {t : TypeId} {cs : Array Value} {row : Option Nat} (h : On w W p t cs) (hp : p < w.heap.size) (hg : W.grownBy W' row) (hrow : ∀ b, row = some b → w.heap.size ≤ b) : On w W' p t cs :=
  ⟨h.1.same (hg.block p (Nat.lt_of_lt_of_le hp h.2.size) (fun e => by have := hrow p e.symm; omega)), hg.os.trans h.2.os, hg.tape.trans h.2.tape, hg.output.trans h.2.output, Nat.le_trans h.2.size hg.size,
    fun k hk hn => (hg.block k (Nat.lt_of_lt_of_le hk h.2.size) (fun e => by have := hrow k e.symm; omega)).trans (h.2.block k hk hn)⟩

theorem StopsRel.next {w wr w2 : World} {p rows cols k : Nat} {past : List PG.Line} {vc vp vq vt v2 i : Value} {bc bt o2 : Option Nat} {rc : List Nat} {b : Bool} {o : Obj} (hpl : p < w.heap.size) (hlt : k < cols) (hb : b = (decide (0 < k) && decide (k % 8 = 0)))
    (hon : On w wr p 52 (gcells { PG.fresh rows cols past with tabs := [] } vc vt nilv vp vq)) (hR : RowsAt wr vc (PG.sheet rows cols) bc rc) (hT : SlAt wr 4 1 vt k (((PG.stops cols).take k).map Value.bool) bt) (hbt : ∀ b, bt = some b → w.heap.size ≤ b)
    (hS2 : SlAt w2 4 1 v2 (k + 1) (((PG.stops cols).take k).map Value.bool ++ [.bool b]) o2) (hg2 : (wr.alloc o).grownBy w2 bt) (ho2 : o2 = bt ∨ o2 = some (wr.heap.size + 1)) (hi : i = .int .i64 (k + 1 : Nat)) :
    StopsRel w p rows cols past vc vp vq bc rc i (w2.setCell ⟨p, 22, none⟩ v2) := by
  have hon2 : On w w2 p 52 (gcells { PG.fresh rows cols past with tabs := [] } vc vt nilv vp vq) := (hon.alloc o).grown hpl hg2 hbt
  have ho : ∀ b, o2 = some b → w.heap.size ≤ b := by
    intro b e
    rcases ho2 with h | h
    · exact hbt b (h ▸ e)
    · rw [h] at e; cases e; have := hon.2.size; omega
  have hne := hR.ne_blk hon.1 (by decide) (by decide)
  have hnt : ∀ b, bt = some b → bc ≠ some b ∧ b ∉ rc := by
    intro b e
    obtain ⟨b', _, _, cur, _, e2, hB, _⟩ := hT.some_ (by rw [e]; simp)
    rw [e] at e2
    cases e2
    have h8 := hR.ne_blk hB (by decide) (by decide)
    exact ⟨fun e => h8.1 b e rfl, fun e => h8.2 b e rfl⟩
  have keep : ∀ b, b < wr.heap.size → b ≠ p → bt ≠ some b → (w2.setCell ⟨p, 22, none⟩ v2).heap[b]? = wr.heap[b]? := fun b h1 h2 h3 =>
    (Below.heap_setCell w2 _ v2 b h2).trans ((hg2.block b (by simp; omega) (fun e => h3 e.symm)).trans (Below.heap_alloc wr o b h1))
  refine ⟨k + 1, v2, o2, hlt, hi, (On.set hon2 22 v2).eq_ (by simp [gcells]), ?_, ?_, ho⟩
  · exact hR.same (fun b e => keep b (hR.lt.1 b e) (hne.1 b e) (fun e' => (hnt b e').1 e)) (fun b e => keep b (hR.lt.2 b e) (hne.2 b e) (fun e' => (hnt b e').2 e))
  · rw [stops_snoc cols k hlt, List.map_append, List.map_cons, List.map_nil, ← hb]
    exact hS2.same fun b e => Below.heap_setCell w2 _ v2 b (fun e' => by have e'' : b = p := e'; have := ho b e; omega)

/-- What reset leaves. -/
def ResetPost (w : World) (p : Nat) (rows cols : Nat) (past : List PG.Line) (vq : Value) (bp : Option Nat) (rp : List Nat) (e : Ending) (w' : World) : Prop :=
  ∃ F', e = .returned (.tuple #[]) ∧ GridAt w' p F' (PG.fresh rows cols past) vq ∧ Step (fun b => b = p ∨ bp = some b ∨ b ∈ rp) F' w w'

theorem On.row {w W : World} {p : Nat} {t : TypeId} {cs : Array Value} (h : On w W p t cs) (cs' : Array Value) : On w (W.setRow p cs') p t cs' :=
  ⟨setRow_heap W p cs cs' t (0, 0) h.1, h.2.os, h.2.tape, h.2.output, by have := h.2.size; simpa using this, fun k hk hn => (setRow_other W p k cs' (by rintro rfl; exact hn rfl)).trans (h.2.block k hk hn)⟩

set_option maxRecDepth 20000 in
set_option maxHeartbeats 8000000 in
theorem reset_mem {w : World} {p : Nat} {g : PG.G} {vc0 vt0 vo0 vp : Value} {aq : Option Addr} {bp : Option Nat} {rp : List Nat} (hb : Blk w p 52 (gcells g vc0 vt0 vo0 vp (.pointer aq))) (h1 : 1 ≤ g.rows) (h2 : g.rows ≤ 60) (h3 : 1 ≤ g.cols) (h4 : g.cols ≤ 120)
    (hP : RowsAt w vp g.past bp rp) (hok : PG.PastOk g.past) (hrp : rp.Nodup) :
    Calls Tryd.prog 16 #[.pointer (some ⟨p, 0, none⟩)] w (ResetPost w p g.rows g.cols g.past (.pointer aq) bp rp) := by
  obtain ⟨pa, pn, pc, rfl⟩ : ∃ a n c, vp = .slice a n c := by
    obtain ⟨vals, hS, _⟩ := hP
    obtain ⟨a, c, e, _⟩ := hS.form
    exact ⟨_, _, _, e⟩
  obtain ⟨rows, hrows⟩ : ∃ r, r = g.rows := ⟨_, rfl⟩
  obtain ⟨cols, hcols⟩ : ∃ c, c = g.cols := ⟨_, rfl⟩
  obtain ⟨past, hpast⟩ : ∃ c, c = g.past := ⟨_, rfl⟩
  have hpl := hb.lt
  rw [← hrows] at h1 h2 ⊢
  rw [← hcols] at h3 h4 ⊢
  rw [← hpast] at hP hok ⊢
  have HP := Lib.hid (And.intro hP (And.intro hok hrp))
  have HB := Lib.hid hb
  have HB0 := Lib.hid hb
  have c0 := hb.cell 0
  have c1 := hb.cell 1
  have c31 := hb.cell 31
  have c32 := hb.cell 32
  simp only [gcells, List.getElem?_toArray, List.getElem?_cons_zero, List.getElem?_cons_succ] at c0 c1 c31 c32
  rw [← hrows] at c0
  rw [← hcols] at c1
  clear hP hok hrp hb hrows hcols hpast
  obtain ⟨i0, hi, hz0, hz1, hz2⟩ := info_parts Tryd.infoBool
  go_enter Tryd.func16, Tryd.ntmps16
  go_upto_region 1 with fail
  go_cut [] from 3 (fun wx => On w wx p 52 (gcells (bare rows cols past) nilv nilv nilv (.slice pa pn pc) (.pointer aq)))
  case first =>
    go_still_tail 19, (by kernel_rfl)
    change wpList _ _ _ _ _ w.drew
    go_wp2_with (with_reducible refine wpList_store_row ?h0 52 (.tmp 21) (.tmp 20) ?h1 p (gcells (bare rows cols past) nilv nilv nilv (.slice pa pn pc) (.pointer aq)) ?h2 ?h3 52 (gcells g vc0 vt0 vo0 (.slice pa pn pc) (.pointer aq)) ?h4 ?h5 ?h6 ?h7 ?_)
    case h0 => rfl
    case h1 => rfl
    case h2 => rfl
    case h3 => rfl
    case h4 => exact HB.out
    case h5 => kernel_rfl
    case h6 => rfl
    case h7 => simp [gcells, bare, PG.zeroCur, PG.zeroCell, Value.oneCell']
    go_wp2
    go_meet
    exact (On.refl HB.out).drew.row _
  case rest =>
  have HO0 := Lib.hid hcut
  have k0 : wc.cell? ⟨p, 0, none⟩ = some (.int .i64 rows) := gc_rows (g := bare rows cols past) hcut.1
  have k1 : wc.cell? ⟨p, 1, none⟩ = some (.int .i64 cols) := gc_cols (g := bare rows cols past) hcut.1
  clear hcut HB c0 c1 c31 c32
  go_upto_region 2 with fail
  go_cut [] from 3 (fun wx => ∃ vc bc rc, On w wx p 52 (gcells (bare rows cols past) vc nilv nilv (.slice pa pn pc) (.pointer aq)) ∧ RowsAt wx vc (PG.sheet rows cols) bc rc ∧ (∀ b, bc = some b → w.heap.size ≤ b) ∧ (∀ b ∈ rc, w.heap.size ≤ b) ∧ rc.Nodup)
  case first =>
    go_region_held3 (fun w' => w'.cell? ⟨p, 0, none⟩ = some (.int .i64 rows) ∧ w'.cell? ⟨p, 1, none⟩ = some (.int .i64 cols)) (first | (go_keep; done) | (exact ⟨(World.cell?_setCell_other _ _ _ _ (by simp)).trans q0, (World.cell?_setCell_other _ _ _ _ (by simp)).trans q1⟩)) (first
      | (go_at_call 26; refine (sheet_any rows cols _ (by omega) (by omega)).mono ?_; rintro e w1 ⟨v2, o2, r2, rfl, hR2, ho2, hr2', hn2, hb1⟩; obtain ⟨a2, n2, c2', rfl⟩ : ∃ a n c, v2 = .slice a n c := (by obtain ⟨vals, hS, _⟩ := hR2; obtain ⟨a, c, e, _⟩ := hS.form; exact ⟨_, _, _, e⟩); have HO1 := Lib.hid (On.below (W := wc.drew) HO0.out.drew hb1); have HR2 := Lib.hid (And.intro hR2 (And.intro ho2 (And.intro hr2' (And.intro hn2 hb1)))); have q0 : w1.cell? ⟨p, 0, none⟩ = some (.int .i64 rows) := gc_rows (g := bare rows cols past) HO1.out.1; have q1 : w1.cell? ⟨p, 1, none⟩ = some (.int .i64 cols) := gc_cols (g := bare rows cols past) HO1.out.1; have q2 := gc_cells HO1.out.1; have r2' := HO1.out.1.frozen 2; clear hR2 ho2 hr2' hn2 hb1))
    all_goals go_wp2
    all_goals go_meet
    all_goals
      obtain ⟨hR2, ho2, hr2', hn2, hb1⟩ := HR2.out
      have hsz0 := HO0.out.2.size
      have hon : On w (w1.setCell ⟨p, 2, none⟩ (.slice a2 n2 c2')) p 52 (gcells (bare rows cols past) (.slice a2 n2 c2') nilv nilv (.slice pa pn pc) (.pointer aq)) := HO1.out.set 2 (.slice a2 n2 c2')
      have hpne : ∀ b, wc.drew.heap.size ≤ b → b ≠ p := fun b hb e => by simp at hb; omega
      have hR3 : RowsAt (w1.setCell ⟨p, 2, none⟩ (.slice a2 n2 c2')) (.slice a2 n2 c2') (PG.sheet rows cols) o2 r2 :=
        hR2.same (fun b e => Below.heap_setCell w1 _ (.slice a2 n2 c2') b (hpne b (ho2 b e))) (fun b e => Below.heap_setCell w1 _ (.slice a2 n2 c2') b (hpne b (hr2' b e)))
      exact ⟨_, o2, r2, hon, hR3, fun b e => by have := ho2 b e; simp at this; omega, fun b e => by have := hr2' b e; simp at this; omega, hn2⟩
  case rest =>
  obtain ⟨vc, bc, rc, hon, hR, hbc, hrc, hrn⟩ := hcut
  clear k0 k1 HO0
  rename World => w1
  have HR := Lib.hid (And.intro hon (And.intro hR (And.intro hbc (And.intro hrc hrn))))
  have c0 : w1.cell? ⟨p, 0, none⟩ = some (.int .i64 rows) := gc_rows (g := bare rows cols past) hon.1
  have c1 : w1.cell? ⟨p, 1, none⟩ = some (.int .i64 cols) := gc_cols (g := bare rows cols past) hon.1
  have c18 : w1.cell? ⟨p, 18, none⟩ = some (.int .i64 0) := gc_bottom (g := bare rows cols past) hon.1
  have c19 : w1.cell? ⟨p, 19, none⟩ = some (.bool false) := gc_wrap (g := bare rows cols past) hon.1
  have f18 := hon.1.frozen 18
  have f19 := hon.1.frozen 19
  clear hon hR hbc hrc hrn
  have hr1 : IntKind.i64.wrap ((rows : Int) - 1) = ((rows - 1 : Nat) : Int) := by rw [IntWalk.i64_in _ (by omega)]; omega
  go_wp2_with fail
  clear hr1
  go_loopw [2, 49] (fun _ i wr => StopsRel w p rows cols past vc (.slice pa pn pc) (.pointer aq) bc rc i wr) (fun _ i _ => cols - (intOf i).toNat)
  case atStart =>
    obtain ⟨hon, hR, hbc, hrc, hrn⟩ := HR.out
    have hne := hR.ne_blk hon.1 (by decide) (by decide)
    refine ⟨0, nilv, none, Nat.zero_le _, rfl, ?_, ?_, SlAt.nil _ _ _, fun b e => (by cases e)⟩
    · refine (On.set (On.set hon 18 _) 19 _).eq_ ?_
      simp [gcells, bare, PG.fresh, PG.zeroCur, PG.zeroCell]
    · exact (hR.same (fun b e => Below.heap_setCell w1 _ _ b (hne.1 b e)) (fun b e => Below.heap_setCell w1 _ _ b (hne.2 b e))).same (fun b e => Below.heap_setCell _ _ _ b (hne.1 b e)) (fun b e => Below.heap_setCell _ _ _ b (hne.2 b e))
  case round =>
    obtain ⟨k, vt, bt, hk, rfl, hon, hR, hT, hbt⟩ := hrel
    obtain ⟨ta, tk, rfl, _⟩ := hT.form
    have c22 : wr.cell? ⟨p, 22, none⟩ = some (.slice ta k tk) := gc_tabs hon.1
    have f22 := hon.1.frozen 22
    have hpr := hon.1.lt
    have k6 : wr.cell? ⟨p, 6, none⟩ = some (.int .i32 0) := gc_rune (g := { PG.fresh rows cols past with tabs := [] }) hon.1
    have k7 : wr.cell? ⟨p, 7, none⟩ = some (.int .i64 0) := gc_fg (g := { PG.fresh rows cols past with tabs := [] }) hon.1
    have k8 : wr.cell? ⟨p, 8, none⟩ = some (.int .i64 0) := gc_bg (g := { PG.fresh rows cols past with tabs := [] }) hon.1
    have k9 : wr.cell? ⟨p, 9, none⟩ = some (.int .i64 0) := gc_sty (g := { PG.fresh rows cols past with tabs := [] }) hon.1
    have k13 : wr.cell? ⟨p, 13, none⟩ = some (.int .i32 0) := gc_srune (g := { PG.fresh rows cols past with tabs := [] }) hon.1
    have k14 : wr.cell? ⟨p, 14, none⟩ = some (.int .i64 0) := gc_sfg (g := { PG.fresh rows cols past with tabs := [] }) hon.1
    have k15 : wr.cell? ⟨p, 15, none⟩ = some (.int .i64 0) := gc_sbg (g := { PG.fresh rows cols past with tabs := [] }) hon.1
    have k16 : wr.cell? ⟨p, 16, none⟩ = some (.int .i64 0) := gc_ssty (g := { PG.fresh rows cols past with tabs := [] }) hon.1
    have l6 := hon.1.frozen 6
    have l7 := hon.1.frozen 7
    have l8 := hon.1.frozen 8
    have l9 := hon.1.frozen 9
    have l13 := hon.1.frozen 13
    have l14 := hon.1.frozen 14
    have l15 := hon.1.frozen 15
    have l16 := hon.1.frozen 16
    obtain ⟨vals, hvals⟩ : ∃ vals, vals = ((PG.stops cols).take k).map Value.bool := ⟨_, rfl⟩
    rw [← hvals] at hT
    have HVALS := Lib.hid hvals
    have HREL := Lib.hid (And.intro hon (And.intro hR (And.intro hT hbt)))
    clear hon hR hT hbt hvals
    by_cases hlt : k < cols
    · have hli : (k : Int) < (cols : Int) := by omega
      have hk0i : (0 : Int) ≤ (k : Int) := by omega
      have hmax : k + 1 ≤ maxLen := by unfold maxLen; omega
      have hbd : (k + 1) * 1 ≤ 140737488355328 := by omega
      by_cases hk0 : 0 < k
      · have hd : decide (0 < k) = true := by simpa using hk0
        have hd2 : decide ((0 : Int) < (k : Int)) = true := by simp; omega
        obtain ⟨bb, hbb⟩ : ∃ bb : Bool, bb = ((k : Int) % 8 == 0) := ⟨_, rfl⟩
        have hbb2 : ((k : Int) % 8 == 0) = bb := hbb.symm
        have HBB := Lib.hid hbb
        clear hbb
        go_wp2_with (at_builtin; refine wpList_append_sl _ rfl (.tmp 56) (.tmp 64) 50 50 rfl 4 i0 _ 1 1 Tryd.underlying50 hi hz0 hz1 hz2 rfl (.slice ta k tk) k vals bt rfl ?c1 (.slice (some ⟨wr.heap.size, 0, none⟩) 1 1) 1 [.bool bb] rfl ?c2 hmax hbd ?_)
        case c1 => exact HREL.out.2.2.1.alloc _
        case c2 => exact SlAt.src (ob := some wr.heap.size) (e := 4) ⟨rfl, .inr ⟨_, 0, 1, #[.bool bb], rfl, rfl, Blk.new_at (by simp), Nat.le_refl _, by simp, fun i x hx => by simpa using hx⟩⟩ Tryd.underlying50 (by intro u hu; simp at hu; subst hu; rfl)
        intro v2 o2 w2 hS2 hg2 ho2
        obtain ⟨a2, q2, rfl, _⟩ := hS2.form
        have HS2 := Lib.hid (And.intro hS2 (And.intro hg2 ho2))
        have hB2 := (HREL.out.1.alloc _).grown hpl hg2 HREL.out.2.2.2
        have m22 : w2.cell? ⟨p, 22, none⟩ = some (.slice ta k tk) := gc_tabs hB2.1
        have n22 := hB2.1.frozen 22
        clear hS2 hg2 ho2 hB2
        go_wp2
        go_simp
        go_roundw
        case rel => exact StopsRel.next (b := bb) hpl hlt (by rw [HBB.out, hd, Bool.true_and]; rw [Bool.eq_iff_iff]; simp; omega) HREL.out.1 HREL.out.2.1 (HVALS.out ▸ HREL.out.2.2.1) HREL.out.2.2.2 (HVALS.out ▸ HS2.out.1) HS2.out.2.1 HS2.out.2.2 (by go_num)
        case measure => simp [intOf]; omega
      · obtain rfl : k = 0 := by omega
        obtain ⟨bb, hbb⟩ : ∃ bb : Bool, bb = false := ⟨_, rfl⟩
        have HBB := Lib.hid hbb
        go_wp2_with (at_builtin; refine wpList_append_sl _ rfl (.tmp 56) (.tmp 64) 50 50 rfl 4 i0 _ 1 1 Tryd.underlying50 hi hz0 hz1 hz2 rfl (.slice ta 0 tk) 0 vals bt rfl ?d1 (.slice (some ⟨wr.heap.size, 0, none⟩) 1 1) 1 [.bool false] rfl ?d2 hmax hbd ?_)
        case d1 => exact HREL.out.2.2.1.alloc _
        case d2 => exact SlAt.src (ob := some wr.heap.size) (e := 4) ⟨rfl, .inr ⟨_, 0, 1, #[.bool false], rfl, rfl, Blk.new_at (by simp), Nat.le_refl _, by simp, fun i x hx => by simpa using hx⟩⟩ Tryd.underlying50 (by intro u hu; simp at hu; subst hu; rfl)
        intro v2 o2 w2 hS2 hg2 ho2
        obtain ⟨a2, q2, rfl, _⟩ := hS2.form
        have HS2 := Lib.hid (And.intro hS2 (And.intro hg2 ho2))
        have hB2 := (HREL.out.1.alloc _).grown hpl hg2 HREL.out.2.2.2
        have m22 : w2.cell? ⟨p, 22, none⟩ = some (.slice ta 0 tk) := gc_tabs hB2.1
        have n22 := hB2.1.frozen 22
        clear hS2 hg2 ho2 hB2
        go_wp2
        go_simp
        go_roundw
        case rel => exact StopsRel.next (b := false) hpl hlt (by rfl) HREL.out.1 HREL.out.2.1 (HVALS.out ▸ HREL.out.2.2.1) HREL.out.2.2.2 (HVALS.out ▸ HS2.out.1) HS2.out.2.1 HS2.out.2.2 (by go_num)
        case measure => simp [intOf]; omega
    · have hli : ¬ (k : Int) < (cols : Int) := by omega
      obtain rfl : k = cols := by omega
      go_wp2
      go_end0
      obtain ⟨hon, hR, hT, hbt⟩ := HREL.out
      rw [HVALS.out] at hT
      obtain ⟨_, _, hbc, hrc, hrn⟩ := HR.out
      obtain ⟨hP, hok, hrp⟩ := HP.out
      obtain ⟨W, hW⟩ : ∃ W, W = ((((((((wr.setCell ⟨p, 6, none⟩ (.int .i32 0)).setCell ⟨p, 7, none⟩ (.int .i64 0)).setCell ⟨p, 8, none⟩ (.int .i64 0)).setCell ⟨p, 9, none⟩ (.int .i64 0)).setCell ⟨p, 13, none⟩ (.int .i32 0)).setCell ⟨p, 14, none⟩ (.int .i64 0)).setCell ⟨p, 15, none⟩ (.int .i64 0)).setCell ⟨p, 16, none⟩ (.int .i64 0)) := ⟨_, rfl⟩
      rw [← hW]
      have hon2 : On wr W p 52 (gcells (PG.fresh rows k past) vc (.slice ta k tk) nilv (.slice pa pn pc) (.pointer aq)) := by
        rw [hW]
        exact on_ex ⟨_, ((((((((On.refl hon.1).set 6 _).set 7 _).set 8 _).set 9 _).set 13 _).set 14 _).set 15 _).set 16 _, by simp [gcells, PG.fresh, PG.zeroCur, PG.zeroCell]⟩
      clear hW
      have hsz := hon.2.size
      have hne := hR.ne_blk hon.1 (by decide) (by decide)
      have hR2 : RowsAt W vc (PG.sheet rows k) bc rc := hR.same (fun b e => hon2.2.block b (hR.lt.1 b e) (fun e' => hne.1 b e (Option.some.inj e'))) (fun b e => hon2.2.block b (hR.lt.2 b e) (fun e' => hne.2 b e (Option.some.inj e')))
      have hT2 : SlAt W 4 1 (.slice ta k tk) (PG.stops k).length ((PG.stops k).map Value.bool) bt := by
        have h9 : SlAt wr 4 1 (.slice ta k tk) (PG.stops k).length ((PG.stops k).map Value.bool) bt := by
          have e : (PG.stops k).take k = PG.stops k := List.take_of_length_le (by rw [PG.G.stops_len]; exact Nat.le_refl _)
          rw [e] at hT
          rw [PG.G.stops_len]
          exact hT
        exact h9.same fun b e => hon2.2.block b (h9.lt b e) (fun e' => by have := hbt b e; have := Option.some.inj e'; omega)
      have hPne := hP.ne_blk (HB0.out) (by decide) (by decide)
      have keep : ∀ b, b < w.heap.size → b ≠ p → W.heap[b]? = w.heap[b]? := fun b hb hn => (hon2.2.block b (by omega) (fun e => hn (Option.some.inj e))).trans (hon.2.block b hb (fun e => hn (Option.some.inj e)))
      have hP2 : RowsAt W (.slice pa pn pc) past bp rp := hP.same (fun b e => keep b (hP.lt.1 b e) (hPne.1 b e)) (fun b e => keep b (hP.lt.2 b e) (hPne.2 b e))
      have hM : GridMem W p (PG.fresh rows k past) vc (.slice ta k tk) nilv (.slice pa pn pc) (.pointer aq) bc bt none bp rc [] rp := by
        refine ⟨hon2.1, hR2, hT2, ⟨rfl, rfl, rfl⟩, hP2, ?_, ?_⟩
        · rw [Option.toList_none, List.nil_append, List.nodup_append]
          refine ⟨by cases bc <;> simp, by cases bp <;> simp, fun a ha b hb => ?_⟩
          have := hbc a (by simpa using ha)
          have := hP.lt.1 b (by simpa using hb)
          omega
        · rw [List.nil_append, List.nodup_append]
          refine ⟨hrn, hrp, fun a ha b hb => ?_⟩
          have := hrc a ha
          have := hP.lt.2 b hb
          omega
      refine ⟨footG p bc bt none bp rc [] rp, rfl, ⟨PG.G.fresh_inv h1 h2 h3 h4 hok, hM.lt, _, _, _, _, _, _, _, _, _, _, _, hM, fun _ h => h⟩, ⟨hon2.2.os.trans hon.2.os, hon2.2.tape.trans hon.2.tape, hon2.2.output.trans hon.2.output, Nat.le_trans hsz hon2.2.size, fun b hb hn => keep b hb (fun e => hn (.inl e)), fun b hb => ?_⟩⟩
      rcases hb with hb | hb | hb | hb | hb | hb | hb | hb
      · exact .inl (.inl hb)
      · exact .inr (hbc b hb)
      · exact .inr (hbt b hb)
      · cases hb
      · exact .inl (.inr (.inl hb))
      · exact .inr (hrc b hb)
      · cases hb
      · exact .inl (.inr (.inr hb))

end Go.Proofs.YtdbepelcgmnbbaaDoor
