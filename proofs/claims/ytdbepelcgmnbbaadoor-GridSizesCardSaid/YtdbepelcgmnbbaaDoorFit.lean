/- Cells fitted into a size. -/
import Derived.Test.YtdbepelcgmnbbaaDoorWipe
import Derived.Deep.RegionLaw
namespace Go.Proofs.YtdbepelcgmnbbaaDoor
open Go Go.RowKit

theorem fitLine_over (cols : Nat) (l : PG.Line) : over (PG.line cols) 0 (l.take (min l.length cols)) = PG.G.fitLine cols l := by
  unfold over PG.G.fitLine PG.line
  rw [List.take_zero, List.nil_append, Nat.zero_add, List.drop_replicate, List.length_take]
  have e1 : l.take (min l.length cols) = l.take cols := by
    by_cases h : l.length ≤ cols
    · rw [Nat.min_eq_left h, List.take_of_length_le (Nat.le_refl _), List.take_of_length_le h]
    · rw [Nat.min_eq_right (by omega)]
  rw [e1]
  congr 2
  omega
theorem fitLine_len (cols : Nat) (l : PG.Line) : (PG.G.fitLine cols l).length = cols := by
  unfold PG.G.fitLine PG.line
  simp
  omega

/-- Rows behind rows. -/
theorem RowsAt.append {w w'' : World} {v v2 v' : Value} {L L2 : List PG.Line} {ob ob2 ob' : Option Nat} {rb rb2 : List Nat} {vals vals2 : List Value} (h : RowsAt w v L ob rb) (hS : SlAt w 40 1 v L.length vals ob)
    (h2 : RowsAt w v2 L2 ob2 rb2) (hS2 : SlAt w 40 1 v2 L2.length vals2 ob2) (hS' : SlAt w'' 40 1 v' (L.length + L2.length) (vals ++ vals2) ob') (hg : w.grownBy w'' ob) : RowsAt w'' v' (L ++ L2) ob' (rb ++ rb2) := by
  obtain ⟨vals', hS0, hl, hrows⟩ := h
  obtain ⟨vals2', hS20, hl2, hrows2⟩ := h2
  have hv : vals' = vals := hS0.det hS
  have hv2 : vals2' = vals2 := hS20.det hS2
  subst hv hv2
  have hkeep : ∀ {u' : Value} {n' : Nat} {xs' : List Value} {b' : Nat}, SlAt w 42 4 u' n' xs' (some b') → SlAt w'' 42 4 u' n' xs' (some b') := by
    intro u' n' xs' b' hx
    refine hx.same fun b1 e => ?_
    cases e
    refine hg.block b' (hx.lt _ rfl) ?_
    intro e
    rw [← e] at hS0
    exact (hx.ne_ hS0 (by decide)) rfl
  have hlv : vals'.length = L.length := by rw [hS0.len, Nat.mul_one]
  refine ⟨_, by simpa using hS', by simp [hl, hl2], fun i l' hi => ?_⟩
  by_cases h1 : i < L.length
  · rw [List.getElem?_append_left h1] at hi
    obtain ⟨u', b', e1, e2, e3⟩ := hrows i l' hi
    exact ⟨u', b', by rw [List.getElem?_append_left (by omega)]; exact e1, by rw [List.getElem?_append_left (by omega)]; exact e2, hkeep e3⟩
  · rw [List.getElem?_append_right (by omega)] at hi
    obtain ⟨u', b', e1, e2, e3⟩ := hrows2 (i - L.length) l' hi
    exact ⟨u', b', by rw [List.getElem?_append_right (by omega), hlv]; exact e1, by rw [List.getElem?_append_right (by omega), hl]; exact e2, hkeep e3⟩

/-- What fit hands back. -/
def FitPost (w : World) (L : List PG.Line) (row rows cols : Nat) (e : Ending) (w' : World) : Prop :=
  ∃ v ob rb, e = .returned (.tuple #[v, .int .i64 (PG.G.lost row rows)]) ∧ RowsAt w' v (PG.G.fit L row rows cols) ob rb ∧ (∀ b, ob = some b → w.heap.size ≤ b) ∧ (∀ b ∈ rb, w.heap.size ≤ b) ∧ rb.Nodup ∧ Below w.heap.size w w'

def FitRel (w : World) (M : List PG.Line) (cols : Nat) (out i : Value) (wr : World) : Prop :=
  ∃ (k : Nat) (oo : Option Nat) (ro : List Nat), k ≤ M.length ∧ i = .int .i64 k ∧ RowsAt wr out ((M.take k).map (PG.G.fitLine cols)) oo ro ∧ (∀ b, oo = some b → w.heap.size ≤ b) ∧ (∀ b ∈ ro, w.heap.size ≤ b) ∧ ro.Nodup ∧ Below w.heap.size w wr

theorem FitRel.next {w wr w4 w5 : World} {M : List PG.Line} {cols k : Nat} {out out2 i u : Value} {oo o2 : Option Nat} {ro : List Nat} {ng : Nat} {l : PG.Line} {vals : List Value} {o : Obj} (hk : k < M.length) (hl : M[k] = l) (hi : i = .int .i64 (k + 1 : Nat))
    (hR : RowsAt wr out ((M.take k).map (PG.G.fitLine cols)) oo ro) (hoo : ∀ b, oo = some b → w.heap.size ≤ b) (hro : ∀ b ∈ ro, w.heap.size ≤ b) (hn : ro.Nodup) (hb : Below w.heap.size w wr)
    (hb4 : Below wr.heap.size wr w4) (hng : wr.heap.size ≤ ng) (hrow : SlAt w4 42 4 u cols (flat (PG.G.fitLine cols l)) (some ng)) (hS : SlAt wr 40 1 out k vals oo)
    (hS' : SlAt w5 40 1 out2 (k + 1) (vals ++ [u]) o2) (hg : (w4.alloc o).grownBy w5 oo) (ho2 : o2 = oo ∨ o2 = some (w4.heap.size + 1)) : FitRel w M cols out2 i w5 := by
  have hs1 := hb.size
  have hs4 := hb4.size
  have hlen : ((M.take k).map (PG.G.fitLine cols)).length = k := by simp; omega
  have hR4 : RowsAt (w4.alloc o) out ((M.take k).map (PG.G.fitLine cols)) oo ro :=
    (hR.below hb4 hR.lt.1 hR.lt.2).same (fun b e => Below.heap_alloc w4 o b (Nat.lt_of_lt_of_le (hR.lt.1 b e) hs4)) (fun b e => Below.heap_alloc w4 o b (Nat.lt_of_lt_of_le (hR.lt.2 b e) hs4))
  have hS4 : SlAt (w4.alloc o) 40 1 out ((M.take k).map (PG.G.fitLine cols)).length vals oo := by
    rw [hlen]
    exact (hS.below hb4 hS.lt).alloc o
  have hR5 := hR4.snoc (l := PG.G.fitLine cols l) (u := u) (b := ng) hS4 (by rw [hlen]; exact hS') hg (by rw [fitLine_len]; exact hrow.alloc o)
  refine ⟨k + 1, o2, ro ++ [ng], hk, hi, ?_, fun b e => ?_, fun b e => ?_, ?_, ?_⟩
  · rw [List.take_succ_eq_append_getElem hk, List.map_append, hl]
    exact hR5
  · rcases ho2 with h | h
    · exact hoo b (h ▸ e)
    · rw [h] at e; cases e; omega
  · rcases List.mem_append.1 e with h | h
    · exact hro b h
    · simp at h; omega
  · rw [List.nodup_append]
    refine ⟨hn, by simp, fun a ha b hb' => ?_⟩
    simp at hb'
    have := hR.lt.2 a ha
    omega
  · exact ((hb.trans (hb4.mono hs1)).alloc (by omega) _).grown hg (by simp; omega) hoo

set_option maxRecDepth 20000 in
set_option maxHeartbeats 4000000 in
theorem fit_any (w : World) (v : Value) (L : List PG.Line) (ob : Option Nat) (rb : List Nat) (hR : RowsAt w v L ob rb) (hL : L.length ≤ 60) (hl : ∀ l ∈ L, l.length ≤ 120) (row rows cols : Nat) (hrow : row < L.length) (h1 : 1 ≤ rows) (h2 : rows ≤ 60) (h3 : 1 ≤ cols) (h4 : cols ≤ 120) :
    Calls Tryd.prog 21 #[v, .int .i64 row, .int .i64 rows, .int .i64 cols] w (FitPost w L row rows cols) := by
  obtain ⟨i0, hi, hz0, hz1, hz2⟩ := info_parts Tryd.infoLine
  obtain ⟨j0, hj, hy0, hy1, hy2⟩ := info_parts Tryd.infoCell
  obtain ⟨vb, vo, vc, rfl, hvc⟩ : ∃ vb vo vc, v = .slice (some ⟨vb, vo, none⟩) L.length vc ∧ L.length ≤ vc := by
    obtain ⟨bo, oo, co, _, _, _, e1, e2, e3, _⟩ := hR.row (List.getElem?_eq_getElem hrow)
    exact ⟨bo, oo, co, e1, e3⟩
  obtain ⟨lost, hlost⟩ : ∃ lost, lost = PG.G.lost row rows := ⟨_, rfl⟩
  have hlo : lost = row + 1 - rows := by rw [hlost]; rfl
  obtain ⟨M, hM⟩ : ∃ M, M = (L.drop lost).take rows := ⟨_, rfl⟩
  obtain ⟨cnt, hcnt⟩ : ∃ cnt, cnt = M.length := ⟨_, rfl⟩
  have hcl : cnt = min rows (L.length - lost) := by rw [hcnt, hM]; simp
  have hfit : PG.G.fit L row rows cols = M.map (PG.G.fitLine cols) ++ PG.sheet (rows - cnt) cols := by
    unfold PG.G.fit
    simp only [List.length_map]
    rw [← hlost, ← hM, ← hcnt]
  have hMk : ∀ k (hk : k < M.length), ∃ lb lo lc, w.cell? ⟨vb, vo + lost + k, none⟩ = some (.slice (some ⟨lb, lo, none⟩) M[k].length lc) ∧ SlAt w 42 4 (.slice (some ⟨lb, lo, none⟩) M[k].length lc) M[k].length (flat M[k]) (some lb) ∧ M[k].length ≤ 120 := by
    intro k hk
    have hk' : lost + k < L.length := by omega
    have e : M[k] = L[lost + k] := by simp [hM]
    rw [e]
    obtain ⟨bo, oo, co, lb, lo, lc, e1, e2, e3, e4, e5, e6, e7⟩ := hR.row (List.getElem?_eq_getElem hk')
    cases e1
    exact ⟨lb, lo, lc, by rw [Nat.add_assoc]; exact e4, e7, hl _ (List.getElem_mem hk')⟩
  have HI := Lib.hid (And.intro hR (And.intro hfit (And.intro hMk (And.intro hcnt hlost))))
  obtain ⟨n, hn⟩ : ∃ n, n = L.length := ⟨_, rfl⟩
  rw [← hn] at hvc hcl hL hrow ⊢
  have hmax : (if (0 : Int) < (row : Int) - (rows : Int) + 1 then (row : Int) - (rows : Int) + 1 else 0) = (lost : Int) := by split <;> omega
  obtain ⟨e, he⟩ : ∃ e, e = lost + cnt := ⟨_, rfl⟩
  have hmin : (if (lost : Int) + (rows : Int) < (n : Int) then (lost : Int) + (rows : Int) else (n : Int)) = (e : Int) := by split <;> omega
  have hvl : ¬ vc = lost := by omega
  have hll : lost ≤ 60 := by omega
  have hcb : cnt ≤ 60 := by omega
  have hg1 : (0 : Int) ≤ (lost : Int) := by omega
  have hg2 : (lost : Int) ≤ (e : Int) := by omega
  have hg3 : (e : Int) ≤ (vc : Int) := by omega
  have hg4 : lost ≤ e := by omega
  have HE := Lib.hid he
  have hckr : cnt ≤ rows := by omega
  have HKR := Lib.hid hckr
  clear hR hl hlost hM hfit hMk hn hcl hlo hcnt he hckr
  go_enter Tryd.func21, Tryd.ntmps21
  go_wp2_with fail
  go_loopw [8, 11, 12, 28] (fun out _ _ i wr => FitRel w M cols out i wr) (fun _ _ _ i _ => cnt - (intOf i).toNat)
  case atStart => exact ⟨0, none, [], Nat.zero_le _, rfl, RowsAt.nil w, fun _ h => (by cases h), fun _ h => (by cases h), List.nodup_nil, Below.refl _ _⟩
  case round =>
    obtain ⟨k, oo, ro, hk, rfl, hRo, hoo, hro, hnd, hbw⟩ := hrel
    have hkc : cnt = M.length := HI.out.2.2.2.1
    have hec : e - lost = cnt := by have := HE.out; omega
    by_cases hlt : k < cnt
    · have hli : (k : Int) < ((e - lost : Nat) : Int) := by omega
      have hl0 : (0 : Int) ≤ (k : Int) := by omega
      have hkM : k < M.length := by omega
      obtain ⟨lb, lo, lc, hcell, hlrow, hl120⟩ := HI.out.2.2.1 k hkM
      obtain ⟨l, hl⟩ : ∃ l, l = M[k] := ⟨_, rfl⟩
      rw [← hl] at hcell hlrow hl120
      have hvbl := World.block_lt_of_cell? w _ hcell
      have ck : wr.cell? ⟨vb, vo + lost + k, none⟩ = some (.slice (some ⟨lb, lo, none⟩) l.length lc) := (hbw.cell (p := ⟨vb, vo + lost + k, none⟩) hvbl).trans hcell
      have hlr : SlAt wr 42 4 (.slice (some ⟨lb, lo, none⟩) l.length lc) l.length (flat l) (some lb) := hlrow.below hbw (hlrow.lt)
      obtain ⟨vals, hV, hV1, _⟩ := hRo.vals_one
      obtain ⟨oa, ok, rfl, _⟩ := hV.form
      have hlen : ((M.take k).map (PG.G.fitLine cols)).length = k := by simp; omega
      rw [hlen] at hV
      obtain ⟨ll, hll2⟩ : ∃ ll, ll = l.length := ⟨_, rfl⟩
      have hrl : (Value.slice oa ((M.take k).map (PG.G.fitLine cols)).length ok) = .slice oa k ok := by rw [hlen]
      rw [hrl] at hRo ⊢
      rw [← hll2] at ck hlr hl120
      have HW := Lib.hid (And.intro hRo (And.intro hoo (And.intro hro (And.intro hnd (And.intro hbw (And.intro hlr (And.intro hV (And.intro hl hll2))))))))
      clear hRo hoo hro hnd hlr hV hV1 hl hcell hlrow hll2 hlen hrl hbw hkc hec
      go_wp2_with fail
      refine (line_any cols wr (by omega)).mono ?_
      rintro e1 w1 ⟨u, ng, rfl, hS1, hng, hb1⟩
      rw [show (PG.line cols).length = cols by simp [PG.line]] at hS1
      obtain ⟨nb, no, nc, ncur, rfl, hnb, hB1, hnc, hnsz, _⟩ := hS1.some_ (by simp)
      obtain rfl := Option.some.inj hnb
      clear hnb
      have hcpn : (flat (l.take (min l.length cols))).length = min ll cols * 4 := by rw [length_flat, List.length_take, HW.out.2.2.2.2.2.2.2.2]; omega
      have HB1 := Lib.hid (And.intro hS1 (And.intro hB1 (And.intro hb1 (And.intro hng hnsz))))
      clear hS1 hB1 hb1 hng
      go_wp2_with (with_reducible refine wpList_copy_to _ rfl (.tmp 34) (.tmp 35) 40 40 rfl 42 j0 4 Tryd.underlying40 hj hy1 (some ⟨ng, no, none⟩) (some ⟨lb, lo, none⟩) cols nc ll lc (min ll cols) ?e1 ?e2 ?e3 ng no ncur 42 ?e4 (flat (l.take (min l.length cols))) hcpn (fun _ => rfl) ?e5 ?e6 (flat_one _) ?_)
      case e1 => rfl
      case e2 => rfl
      case e3 => rfl
      case e4 => exact HB1.out.2.1
      case e5 =>
        rw [flat_take]
        exact ((HW.out.2.2.2.2.2.1.below HB1.out.2.2.1 HW.out.2.2.2.2.2.1.lt).from_).take _
      case e6 => rw [hcpn]; have := HB1.out.2.2.2.2; omega
      intro w4 hB4 hg4 hs4
      have hS4 : SlAt w4 42 4 (.slice (some ⟨ng, no, none⟩) cols nc) cols (flat (PG.G.fitLine cols l)) (some ng) := by
        have h8 := HB1.out.1.laid (cs := flat (l.take (min l.length cols))) HB1.out.2.1 (0 * 4) (by rw [length_flat, length_flat, List.length_take]; simp [PG.line]; omega) (by simpa using hB4)
        rw [flat_over, fitLine_over] at h8
        exact h8
      have hb4 : Below wr.heap.size wr w4 := HB1.out.2.2.1.grown hg4 HB1.out.2.2.1.size (fun b e => by cases e; exact HB1.out.2.2.2.1)
      have H4 := Lib.hid (And.intro hS4 hb4)
      have hmax2 : k + 1 ≤ maxLen := by unfold maxLen; omega
      have hbd : (k + 1) * 24 ≤ 140737488355328 := by omega
      clear hS4 hb4 hB4 hg4 hs4 hcpn
      go_wp2_with (at_builtin; refine wpList_append_sl _ rfl (.tmp 37) (.tmp 39) 35 35 rfl 40 i0 _ 1 24 Tryd.underlying35 hi hz0 hz1 hz2 rfl (.slice oa k ok) k vals oo rfl ?d1 (.slice (some ⟨w4.heap.size, 0, none⟩) 1 1) 1 [.slice (some ⟨ng, no, none⟩) cols nc] rfl ?d2 hmax2 hbd ?_)
      case d1 => exact (HW.out.2.2.2.2.2.2.1.below H4.out.2 HW.out.2.2.2.2.2.2.1.lt).alloc _
      case d2 => exact Src.ofSlice _ Tryd.underlying35 _ 1 1 [.slice (some ⟨ng, no, none⟩) cols nc] rfl (cell_one_new _ _ _) (by intro x hx; simp at hx; subst hx; rfl)
      intro v5 o5 w5 hS5 hg5 ho5
      have H5 := Lib.hid (And.intro hS5 (And.intro hg5 ho5))
      clear hS5 hg5 ho5
      go_wp2
      go_simp
      go_roundw
      case rel =>
        obtain ⟨hRo, hoo, hro, hnd, hbw, hlr, hV, hl, hll2⟩ := HW.out
        exact FitRel.next hkM hl.symm (by go_num) hRo hoo hro hnd hbw H4.out.2 HB1.out.2.2.2.1 H4.out.1 hV H5.out.1 H5.out.2.1 (by simpa using H5.out.2.2)
      case measure => simp [intOf]; omega
    · have hkl : k = cnt := by omega
      subst hkl
      have hli : ¬ (k : Int) < ((e - lost : Nat) : Int) := by omega
      have hkr : k ≤ rows := by
        have h8 := HI.out.2.1
        have := HKR.out
        omega
      obtain ⟨vals, hV, hV1, _⟩ := hRo.vals_one
      obtain ⟨oa, ok, rfl, _⟩ := hV.form
      have hlen : ((M.take k).map (PG.G.fitLine cols)).length = k := by simp; omega
      have hrl : (Value.slice oa ((M.take k).map (PG.G.fitLine cols)).length ok) = .slice oa k ok := by rw [hlen]
      rw [hlen] at hV
      rw [hrl] at hRo ⊢
      have hsub : (rows : Int) - (k : Int) = ((rows - k : Nat) : Int) := by omega
      have hwr : IntKind.i64.wrap ((rows - k : Nat) : Int) = ((rows - k : Nat) : Int) := IntWalk.i64_in _ (by omega)
      have HW := Lib.hid (And.intro hRo (And.intro hoo (And.intro hro (And.intro hnd (And.intro hbw (And.intro hV (And.intro hlen hkc)))))))
      clear hRo hoo hro hnd hbw hV hV1 hlen hrl hkc hec
      go_wp2_with fail
      refine (sheet_any (rows - k) cols wr (by omega) (by omega)).mono ?_
      rintro e1 w1 ⟨v1, o1, r1, rfl, hR1, ho1, hr1, hn1, hb1⟩
      obtain ⟨vals1, hV1, hV11, _⟩ := hR1.vals_one
      rw [show (PG.sheet (rows - k) cols).length = rows - k by simp [PG.sheet]] at hV1
      obtain ⟨sa, sk, rfl, _⟩ := hV1.form
      have H1 := Lib.hid (And.intro hR1 (And.intro ho1 (And.intro hr1 (And.intro hn1 (And.intro hb1 (And.intro hV1 hV11))))))
      have hmax2 : k + (rows - k) ≤ maxLen := by unfold maxLen; omega
      have hbd : (k + (rows - k)) * 24 ≤ 140737488355328 := by omega
      clear hR1 ho1 hr1 hn1 hb1 hV1 hV11 hsub hwr
      go_wp2_with (at_builtin; refine wpList_append_sl _ rfl (.tmp 42) (.tmp 48) 35 35 rfl 40 i0 _ 1 24 Tryd.underlying35 hi hz0 hz1 hz2 rfl (.slice oa k ok) k vals oo rfl ?f1 (.slice sa (rows - k) sk) (rows - k) vals1 rfl ?f2 hmax2 hbd ?_)
      case f1 => exact HW.out.2.2.2.2.2.1.below H1.out.2.2.2.2.1 HW.out.2.2.2.2.2.1.lt
      case f2 => exact SlAt.src H1.out.2.2.2.2.2.1 Tryd.underlying35 H1.out.2.2.2.2.2.2
      intro v5 o5 w5 hS5 hg5 ho5
      have H5 := Lib.hid (And.intro hS5 (And.intro hg5 ho5))
      clear hS5 hg5 ho5
      go_wp2
      go_ret2
      obtain ⟨hRo, hoo, hro, hnd, hbw, hV, hlen, hkc⟩ := HW.out
      obtain ⟨hR1, ho1, hr1, hn1, hb1, hV1, hV11⟩ := H1.out
      obtain ⟨hS5, hg5, ho5⟩ := H5.out
      have hs1 := hbw.size
      have hs2 := hb1.size
      have hll : (PG.sheet (rows - k) cols).length = rows - k := by simp [PG.sheet]
      have hRa := (hRo.below hb1 hRo.lt.1 hRo.lt.2).append (by rw [hlen]; exact hV.below hb1 hV.lt) hR1 (by rw [hll]; exact hV1) (by rw [hlen, hll, show k + (rows - k) = rows by omega]; exact hS5) hg5
      have hfin : (M.take k).map (PG.G.fitLine cols) ++ PG.sheet (rows - k) cols = PG.G.fit L row rows cols := by rw [HI.out.2.1, List.take_of_length_le (by omega)]
      rw [hfin] at hRa
      refine ⟨v5, o5, ro ++ r1, by rw [← HI.out.2.2.2.2]; rfl, hRa, fun b e => ?_, fun b e => ?_, ?_, (hbw.trans (hb1.mono hs1)).grown hg5 (by omega) hoo⟩
      · rcases ho5 with h | h
        · exact hoo b (h ▸ e)
        · rw [h] at e; cases e; omega
      · rcases List.mem_append.1 e with h | h
        · exact hro b h
        · have := hr1 b h; omega
      · rw [List.nodup_append]
        refine ⟨hnd, hn1, fun a ha b hb' => ?_⟩
        have := hRo.lt.2 a ha
        have := hr1 b hb'
        omega

end Go.Proofs.YtdbepelcgmnbbaaDoor
