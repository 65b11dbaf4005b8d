/- Bytes as runes, piece by piece. -/
import Derived.Test.YtdbepelcgmnbbaaDoorUtf0
import Derived.Test.YtdbepelcgmnbbaaDoorVtCsi
import Derived.Lib.OthersKept
import Derived.Laws.IdiomStrings
namespace Go.Proofs.YtdbepelcgmnbbaaDoor
open Go Go.RowKit

def bval (b : UInt8) : Value := .int .u8 b.toNat
def rval (r : Int) : Value := .int .i32 r

/-- The bytes bs can be read at the slice v. -/
def BytesIn (w : World) (v : Value) (bs : List UInt8) : Prop := ∃ a c, v = .slice a bs.length c ∧ CellsFrom w a (bs.map bval)

theorem bvals_one (l : List UInt8) : ∀ u ∈ l.map bval, u.oneCell' = true := by
  intro u hu
  obtain ⟨x, _, rfl⟩ := List.mem_map.1 hu
  rfl
theorem CellsFrom.src {P : Program} {w : World} {a : Option Addr} {cs : List Value} {n c : Nat} {t e : TypeId} (h : CellsFrom w a cs) (hn : cs.length = n) (ht : P.underlying t = some (.slice e)) (h1 : ∀ u ∈ cs, u.oneCell' = true) (ha : a = none → c = 0) :
    Src P 1 t (.slice a n c) n cs w := by
  rcases h with h | ⟨ad, h, h2⟩
  · subst h
    simp at hn
    subst hn
    cases a with
    | none => rw [ha rfl]; exact Src.ofNil w ht 0
    | some ad => exact Src.ofSlice w ht ad 0 c [] rfl (fun j v hj => by simp at hj) h1
  · subst h
    exact Src.ofSlice w ht ad n c cs (by rw [hn, Nat.mul_one]) h2 h1

theorem Tryd.infoRune : (Tryd.prog.info? 21).map (fun i => (i.zero, i.size, i.bytes)) = some (some (.int .i32 0), 1, 4) := by kernel_rfl
theorem Tryd.infoByte : (Tryd.prog.info? 5).map (fun i => (i.zero, i.size, i.bytes)) = some (some (.int .u8 0), 1, 1) := by kernel_rfl

/-- Runes are handed back, in new memory. -/
def NewRunes (w : World) (rs : List Int) (e : Ending) (w' : World) : Prop :=
  ∃ v ob, e = .returned v ∧ SlAt w' 21 1 v rs.length (rs.map rval) ob ∧ (∀ b, ob = some b → w.heap.size ≤ b) ∧ Below w.heap.size w w'

theorem decode_pos (s : ByteArray) (pos : Nat) (h : pos < s.size) : 1 ≤ (Utf8.decode s pos).2 := by
  by_cases ha : (s[pos]'h).toNat < 128
  · rw [decode_ascii s pos h ha]
    exact Nat.le_refl _
  · exact (decode_high s pos h (by omega)).2

def RunesRel (w : World) (s : ByteArray) (v : Value) (wr : World) : Prop :=
  ∃ (pos fuel : Nat) (acc : List Int) (ob : Option Nat), SlAt wr 21 1 v acc.length (acc.map rval) ob ∧ (∀ b, ob = some b → w.heap.size < b) ∧ wr.heap[w.heap.size]? = some (.stringIter s pos) ∧ Below w.heap.size w wr ∧
    acc ++ PV.runesFrom s fuel pos = PV.runes s ∧ s.size ≤ pos + fuel ∧ acc.length + fuel ≤ s.size

set_option maxRecDepth 20000 in
set_option maxHeartbeats 2000000 in
theorem runes_any (s : ByteArray) (w : World) (hs : s.size ≤ 35184372088831) : Calls Tryd.prog 42 #[.string s] w (NewRunes w (PV.runes s)) := by
  obtain ⟨i0, hi, hz0, hz1, hz2⟩ := info_parts Tryd.infoRune
  go_enter Tryd.func42, Tryd.ntmps42
  go_wp2_with fail
  go_loopw [3, 5] (fun v _ wr => RunesRel w s v wr) (fun _ _ wr => s.size - wr.iterPos w.heap.size)
  case atStart => exact ⟨0, s.size, [], none, SlAt.nil _ _ _, fun b e => (by cases e), World.iter_heap w s 0, (Below.refl _ w).alloc (Nat.le_refl _) _, rfl, by omega, by simp⟩
  case round =>
    obtain ⟨pos, fuel, acc, ob, hS, hob, hit, hbw, hacc, hfu, hal⟩ := hrel
    have hsz : w.heap.size < wr.heap.size := (Array.getElem?_eq_some_iff.1 hit).1
    obtain ⟨va, vk, rfl, _⟩ := hS.form
    by_cases hp : pos < s.size
    · have hnx : ∀ ty, (Instr.next (.pointer (some ⟨w.heap.size, 0, none⟩)) true ty).run Tryd.prog wr = _ := fun ty => Lib.run_next_any_at wr w.heap.size s pos ty hit hp
      have hwd := decode_pos s pos hp
      obtain ⟨rn, hrn⟩ : ∃ rn : Nat, rn = (Utf8.decode s pos).1 := ⟨_, rfl⟩
      obtain ⟨wd, hwd2⟩ : ∃ wd : Nat, wd = (Utf8.decode s pos).2 := ⟨_, rfl⟩
      rw [← hrn, ← hwd2] at hnx
      rw [← hwd2] at hwd
      obtain ⟨f, rfl⟩ : ∃ f, fuel = f + 1 := ⟨fuel - 1, by omega⟩
      have hacc2 : (acc ++ [(rn : Int)]) ++ PV.runesFrom s f (pos + wd) = PV.runes s := by
        rw [← hacc, hrn, hwd2]
        simp [PV.runesFrom, hp]
      obtain ⟨W1, hW1⟩ : ∃ W1, W1 = wr.iterAt w.heap.size s (pos + wd) := ⟨_, rfl⟩
      rw [← hW1] at hnx
      have hit2 : W1.heap[w.heap.size]? = some (.stringIter s (pos + wd)) := by rw [hW1]; exact Lib.iterAt_heap wr w.heap.size s pos (pos + wd) hit
      have hbw2 : Below w.heap.size w W1 := by rw [hW1]; exact Lib.below_iterAt hbw (k := w.heap.size) (Nat.le_refl _) s (pos + wd)
      have hS2 : SlAt W1 21 1 (.slice va acc.length vk) acc.length (acc.map rval) ob := by rw [hW1]; exact hS.same fun b e => Lib.iterAt_other wr w.heap.size b s (pos + wd) (by have := hob b e; omega)
      have hsz1 : w.heap.size < W1.heap.size := (Array.getElem?_eq_some_iff.1 hit2).1
      have hpos1 : wr.iterPos w.heap.size = pos := by simp only [World.iterPos, hit]
      obtain ⟨n, hn⟩ : ∃ n, n = acc.length := ⟨_, rfl⟩
      rw [← hn] at hS2 hal ⊢
      obtain ⟨vals, hvals⟩ : ∃ vals, vals = acc.map rval := ⟨_, rfl⟩
      rw [← hvals] at hS2
      have HV := Lib.hid (And.intro hvals (And.intro hn (And.intro hacc2 (And.intro hit2 (And.intro hbw2 (And.intro hpos1 hob))))))
      have HS2 := Lib.hid hS2
      have hmax : n + 1 ≤ maxLen := by unfold maxLen; omega
      have hbd : (n + 1) * 4 ≤ 140737488355328 := by omega
      clear hvals hn hacc hacc2 hit hit2 hbw hbw2 hS hS2 hW1 hrn hwd2 hpos1 hob
      go_wp2_with (at_builtin; refine wpList_append_sl _ rfl (.tmp 11) (.tmp 13) 75 75 rfl 21 i0 _ 1 4 Tryd.underlying75 hi hz0 hz1 hz2 rfl (.slice va n vk) n vals ob rfl ?c1 (.slice (some ⟨W1.heap.size, 0, none⟩) 1 1) 1 [.int .i32 rn] rfl ?c2 hmax hbd ?_)
      case c1 => exact HS2.out.alloc _
      case c2 => exact SlAt.src (ob := some W1.heap.size) (e := 21) ⟨rfl, .inr ⟨_, 0, 1, #[.int .i32 rn], rfl, rfl, Blk.new_at (by simp), Nat.le_refl _, by simp, fun i x hx => by simpa using hx⟩⟩ Tryd.underlying75 (by intro u hu; simp at hu; subst hu; rfl)
      intro v2 o2 w2 hS3 hg3 ho3
      have H3 := Lib.hid (And.intro hS3 (And.intro hg3 ho3))
      clear hS3 hg3 ho3
      go_wp2
      go_simp
      go_roundw
      case rel =>
        obtain ⟨hvals, hn, hacc2, hit2, hbw2, hpos1, hob⟩ := HV.out
        obtain ⟨hS3, hg3, ho3⟩ := H3.out
        rw [hvals] at hS3
        refine ⟨pos + wd, f, acc ++ [(rn : Int)], o2, by simpa [hn, rval] using hS3, fun b e => ?_, ?_, ?_, hacc2, by omega, by simp; omega⟩
        · rcases ho3 with h | h
          · exact hob b (h ▸ e)
          · rw [h] at e; cases e; first | omega | (simp; omega)
        · exact (hg3.block w.heap.size (by simp; omega) (fun e => by have := hob _ e.symm; omega)).trans ((Below.heap_alloc W1 _ w.heap.size hsz1).trans hit2)
        · exact (hbw2.alloc (by omega) _).grown hg3 (by simp; omega) (fun b e => by have := hob b e; omega)
      case measure =>
        obtain ⟨hvals, hn, hacc2, hit2, hbw2, hpos1, hob⟩ := HV.out
        obtain ⟨hS3, hg3, ho3⟩ := H3.out
        have h9 : w2.iterPos w.heap.size = pos + wd := by
          have := (hg3.block w.heap.size (by simp; omega) (fun e => by have := hob _ e.symm; omega)).trans ((Below.heap_alloc W1 _ w.heap.size hsz1).trans hit2)
          simp only [World.iterPos, this]
        rw [h9, hpos1]
        omega
    · have hnx : ∀ ty, (Instr.next (.pointer (some ⟨w.heap.size, 0, none⟩)) true ty).run Tryd.prog wr = _ := fun ty => Lib.run_next_end_at wr w.heap.size s pos ty hit hp
      have hfin : acc = PV.runes s := by
        rw [← hacc]
        cases fuel with
        | zero => simp [PV.runesFrom]
        | succ f => simp [PV.runesFrom, hp]
      have HF := Lib.hid (And.intro hfin (And.intro hS (And.intro hob hbw)))
      clear hfin hacc hit hS hob hbw
      go_wp2
      go_ret
      obtain ⟨hfin, hS, hob, hbw⟩ := HF.out
      have hS' : SlAt wr 21 1 (.slice va acc.length vk) (PV.runes s).length ((PV.runes s).map rval) ob := by rw [← hfin]; exact hS
      exact ⟨_, ob, rfl, hS', fun b e => by have := hob b e; omega, hbw⟩

theorem CellsFrom.keep {w w' : World} {s : Option Addr} {cs : List Value} (h : CellsFrom w s cs) (hk : ∀ b, b < w.heap.size → w'.heap[b]? = w.heap[b]?) : CellsFrom w' s cs := by
  rcases h with h | ⟨ad, h1, h2⟩
  · exact .inl h
  · exact .inr ⟨ad, h1, fun j v hj => (World.cell?_of_block (hk _ (World.block_lt_of_cell? w _ (h2 j v hj)))).trans (h2 j v hj)⟩
theorem tabs_keep {w w' : World} (h : Lib.Utf8Tabs 2 3 w) (hk : ∀ b, b = 2 ∨ b = 3 → w'.heap[b]? = w.heap[b]?) : Lib.Utf8Tabs 2 3 w' :=
  ⟨fun c hc => (World.cell?_of_block (hk _ (.inl rfl))).trans (h.1 c hc), fun i hi => ⟨(World.cell?_of_block (hk _ (.inr rfl))).trans (h.2 i hi).1, (World.cell?_of_block (hk _ (.inr rfl))).trans (h.2 i hi).2⟩⟩
theorem tabs_lt {w : World} (h : Lib.Utf8Tabs 2 3 w) : 2 < w.heap.size ∧ 3 < w.heap.size :=
  ⟨World.block_lt_of_cell? w _ (h.1 0 (by omega)), World.block_lt_of_cell? w _ (h.2 0 (by omega)).1⟩
theorem tabs_below {w w' : World} (h : Lib.Utf8Tabs 2 3 w) (hb : Below w.heap.size w w') : Lib.Utf8Tabs 2 3 w' :=
  tabs_keep h fun b e => hb.block b (by rcases e with rfl | rfl; exact (tabs_lt h).1; exact (tabs_lt h).2)

/-- What Feed leaves: the runes, in new memory; what is held, in new memory too. -/
def FeedPost (w : World) (d : Nat) (held : List UInt8) (rs : List Int) (e : Ending) (w' : World) : Prop :=
  ∃ v ob vh oh, e = .returned v ∧ SlAt w' 21 1 v rs.length (rs.map rval) ob ∧ (∀ b, ob = some b → w.heap.size ≤ b) ∧ Blk w' d 84 #[vh] ∧ SlAt w' 5 1 vh held.length (held.map bval) oh ∧ (∀ b, oh = some b → w.heap.size ≤ b) ∧ w.grownBy w' (some d)

def WholeRel (w : World) (all : List UInt8) (i j : Value) (wr : World) : Prop :=
  ∃ n k : Nat, i = .int .i64 n ∧ j = .int .i64 k ∧ Below w.heap.size w wr ∧ ((n = all.length ∧ k ≤ all.length ∧ ∃ f, PV.wholeFrom all f k = PV.whole all ∧ all.length ≤ k + f) ∨ (n = PV.whole all ∧ k = n + 1))

set_option maxRecDepth 20000 in
set_option maxHeartbeats 4000000 in
theorem utfFeed_any {w : World} (hT : Lib.Utf8Tabs 2 3 w) {d : Nat} {vh : Value} {oh : Option Nat} (hd : Blk w d 84 #[vh]) (held : List UInt8) (hh : SlAt w 5 1 vh held.length (held.map bval) oh) (hh3 : held.length ≤ 3)
    (bs : List UInt8) (a : Option Addr) (c : Nat) (hb : CellsFrom w a (bs.map bval)) (hac : a = none → c = 0) (hsz : bs.length ≤ 10000000000000) :
    Calls Tryd.prog 28 #[.pointer (some ⟨d, 0, none⟩), .slice a bs.length c] w (FeedPost w d ((held ++ bs).drop (PV.whole (held ++ bs))) (PV.runes ⟨((held ++ bs).take (PV.whole (held ++ bs))).toArray⟩)) := by
  obtain ⟨i0, hi, hz0, hz1, hz2⟩ := info_parts Tryd.infoByte
  obtain ⟨ha, hk, rfl, _⟩ := hh.form
  have cd := hd.cell 0
  have fd := hd.frozen 0
  simp only [List.getElem?_toArray, List.getElem?_cons_zero] at cd
  have hdl := hd.lt
  obtain ⟨all, hall⟩ : ∃ all, all = held ++ bs := ⟨_, rfl⟩
  rw [← hall]
  obtain ⟨hn, hhn⟩ : ∃ n, n = held.length := ⟨_, rfl⟩
  obtain ⟨m, hm⟩ : ∃ n, n = bs.length := ⟨_, rfl⟩
  obtain ⟨x1, hx1⟩ : ∃ x, x = held.map bval := ⟨_, rfl⟩
  obtain ⟨x2, hx2⟩ : ∃ x, x = bs.map bval := ⟨_, rfl⟩
  rw [← hhn, ← hx1] at hh
  rw [← hhn] at hh3 cd hd
  rw [← hm] at hsz ⊢
  rw [← hx2] at hb
  have hx1l : x1.length = hn := by rw [hx1, hhn]; simp
  have hx2l : x2.length = m := by rw [hx2, hm]; simp
  have HX := Lib.hid (And.intro hall (And.intro hhn (And.intro hm (And.intro hx1 (And.intro hx2 (And.intro hx1l hx2l))))))
  have h11 : ∀ u ∈ x1, u.oneCell' = true := by rw [hx1]; exact bvals_one _
  have h12 : ∀ u ∈ x2, u.oneCell' = true := by rw [hx2]; exact bvals_one _
  have HI := Lib.hid (And.intro hT (And.intro hd (And.intro hh (And.intro hb (And.intro hac (And.intro h11 h12))))))
  have hmax1 : 0 + hn ≤ maxLen := by unfold maxLen; omega
  have hbd1 : (0 + hn) * 1 ≤ 140737488355328 := by omega
  have hmax2 : hn + m ≤ maxLen := by unfold maxLen; omega
  have hbd2 : (hn + m) * 1 ≤ 140737488355328 := by omega
  clear hT hd hh hb hac hall hhn hm hx1 hx2 hx1l hx2l h11 h12
  go_enter Tryd.func28, Tryd.ntmps28
  go_wp2_with (at_builtin; refine wpList_append_sl _ rfl (.tmp 8) (.tmp 12) 23 23 rfl 5 i0 _ 1 1 Tryd.underlying23 hi hz0 hz1 hz2 rfl (.slice (some ⟨w.heap.size, 0, none⟩) 0 0) 0 [] (some w.heap.size) rfl ?c1 (.slice ha hn hk) hn x1 rfl ?c2 hmax1 hbd1 ?_)
  case c1 => exact ⟨by simp, .inr ⟨_, 0, 0, #[], rfl, rfl, Blk.new_at rfl, Nat.le_refl _, by simp, fun i x hx => by simp at hx⟩⟩
  case c2 => exact (HI.out.2.2.1.alloc _).src Tryd.underlying23 HI.out.2.2.2.2.2.1
  intro v1 o1 w1 hS1 hg1 ho1
  replace hS1 : SlAt w1 5 1 v1 hn x1 o1 := by simpa using hS1
  obtain ⟨a1, k1, rfl, _⟩ := hS1.form
  have hb1 : Below w.heap.size w w1 := ((Below.refl _ _).alloc (Nat.le_refl _) _).grown hg1 (by simp) (fun b e => by cases e; exact Nat.le_refl _)
  have hw1 := hb1.size
  have ho1' : ∀ b, o1 = some b → w.heap.size ≤ b := by
    intro b e
    rcases ho1 with h | h <;> rw [h] at e <;> cases e <;> first | exact Nat.le_refl _ | simp
  have ho1n : o1 ≠ none := by rcases ho1 with h | h <;> rw [h] <;> simp
  have H1 := Lib.hid (And.intro hS1 (And.intro hb1 (And.intro ho1' ho1n)))
  clear hS1 hg1 ho1 hb1 ho1' ho1n
  go_wp2_with (at_builtin; refine wpList_append_sl _ rfl (.tmp 13) (.tmp 14) 23 23 rfl 5 i0 _ 1 1 Tryd.underlying23 hi hz0 hz1 hz2 rfl (.slice a1 hn k1) hn x1 o1 rfl ?d1 (.slice a m c) m x2 rfl ?d2 hmax2 hbd2 ?_)
  case d1 => exact H1.out.1
  case d2 => exact (HI.out.2.2.2.1.keep H1.out.2.1.block).src HX.out.2.2.2.2.2.2 Tryd.underlying23 HI.out.2.2.2.2.2.2 HI.out.2.2.2.2.1
  intro v2 o2 w2 hS2 hg2 ho2
  have hb2 : Below w.heap.size w w2 := H1.out.2.1.grown hg2 hw1 H1.out.2.2.1
  have ho2' : ∀ b, o2 = some b → w.heap.size ≤ b := by
    intro b e
    rcases ho2 with h | h
    · exact H1.out.2.2.1 b (h ▸ e)
    · rw [h] at e; cases e; exact hw1
  have ho2n : o2 ≠ none := by
    rcases ho2 with h | h <;> rw [h]
    · exact H1.out.2.2.2
    · simp
  obtain ⟨ab, ao, ac, cur, rfl, rfl, hBa, hLc, _⟩ := hS2.some_ ho2n
  obtain ⟨L, hL⟩ : ∃ L, L = hn + m := ⟨_, rfl⟩
  rw [← hL] at hS2 hLc hmax2 hbd2 ⊢
  have hLl : L = all.length := by rw [hL, HX.out.1, HX.out.2.1, HX.out.2.2.1]; simp
  have hLb : L ≤ 10000000000003 := by omega
  have hcells : ∀ k (hk : k < all.length), w2.cell? ⟨ab, ao + k, none⟩ = some (.int .u8 all[k].toNat) := by
    intro k hk
    refine hS2.cells k _ ?_
    rw [HX.out.2.2.2.1, HX.out.2.2.2.2.1, ← List.map_append, ← HX.out.1, List.getElem?_map, List.getElem?_eq_getElem hk]
    rfl
  have hab := ho2' ab rfl
  have H2 := Lib.hid (And.intro hS2 (And.intro hb2 (And.intro hLl (And.intro hcells hBa))))
  clear hS2 hg2 ho2 hb2 ho2' ho2n hL hLl hcells hBa
  go_wp2_with fail
  go_loopw [6, 7] (fun i j wr => WholeRel w2 all i j wr) (fun i j _ => (intOf i).toNat + 1 - (intOf j).toNat)
  case atStart =>
    have hLl := H2.out.2.2.1
    refine ⟨L, L - 3, rfl, ?_, Below.refl _ _, .inl ⟨hLl, by omega, 4, ?_, by omega⟩⟩
    · congr 1
      omega
    · unfold PV.whole
      rw [hLl]
  case round =>
    obtain ⟨n, k, rfl, rfl, hbw, hrel⟩ := hrel
    have hBaw : Blk wr ab 5 cur := H2.out.2.2.2.2.below hbw H2.out.2.2.2.2.lt
    have HBW := Lib.hid (And.intro hbw (And.intro hrel hBaw))
    clear hbw hBaw
    by_cases hkn : k < n
    · have hki : (k : Int) < (n : Int) := by omega
      obtain ⟨rfl, hkL, f, hf, hLf⟩ : n = L ∧ k ≤ L ∧ ∃ f, PV.wholeFrom all f k = PV.whole all ∧ L ≤ k + f := by
        rw [H2.out.2.2.1]
        rcases hrel with h | h
        · exact h
        · omega
      obtain ⟨f, rfl⟩ : ∃ g, f = g + 1 := ⟨f - 1, by omega⟩
      have hkl : k < all.length := by have := H2.out.2.2.1; omega
      have hkni : (k : Int) < (n : Int) := by omega
      have hk0 : (0 : Int) ≤ (k : Int) := by omega
      have ck : wr.cell? ⟨ab, ao + k, none⟩ = some (.int .u8 all[k].toNat) := HBW.out.1.cell (p := ⟨ab, ao + k, none⟩) H2.out.2.2.2.2.lt |>.trans (H2.out.2.2.2.1 k hkl)
      obtain ⟨b, hbk⟩ : ∃ b, b = all[k] := ⟨_, rfl⟩
      rw [← hbk] at ck
      have hgd : all.getD k 0 = b := by rw [List.getD_eq_getElem?_getD, List.getElem?_eq_getElem hkl, hbk]; rfl
      have hwf : PV.wholeFrom all (f + 1) k = if PV.start b && !PV.full (all.drop k) then k else PV.wholeFrom all f (k + 1) := by
        rw [PV.wholeFrom, if_pos hkl, hgd]
      rw [hf] at hwf
      have hck : ¬ ac = k := by omega
      have HW := Lib.hid (And.intro hwf (And.intro hkl hbk))
      clear hf hwf hgd hrel hbk
      go_wp2_with fail
      refine (runeStart_any b _).mono ?_
      rintro e w' ⟨rfl, rfl⟩
      cases hst : PV.start b
      · have HST := Lib.hid hst
        clear hst
        go_wp2
        go_simp
        go_roundw
        case rel =>
          have hwf := HW.out.1
          rw [HST.out] at hwf
          refine ⟨n, k + 1, rfl, by go_num, HBW.out.1, .inl ⟨H2.out.2.2.1, by have := H2.out.2.2.1; omega, f, by simpa using hwf.symm, by have := H2.out.2.2.1; omega⟩⟩
        case measure => simp [intOf]; omega
      · have HST := Lib.hid hst
        clear hst
        go_wp2_with fail
        have hdl : n - k = (all.drop k).length := by have := H2.out.2.2.1; rw [List.length_drop]; omega
        rw [hdl]
        refine (fullRune_any (by exact tabs_below (tabs_below HI.out.1 H2.out.2.1) HBW.out.1) (all.drop k) ab (ao + k) (ac - k) (by rw [← hdl]; omega) (fun i hi => ?_) (by rw [← hdl]; omega)).mono ?_
        · have hi' : k + i < all.length := by rw [List.length_drop] at hi; omega
          rw [List.getElem_drop, Nat.add_assoc]
          exact (HBW.out.1.cell (p := ⟨ab, ao + (k + i), none⟩) H2.out.2.2.2.2.lt).trans (H2.out.2.2.2.1 (k + i) hi')
        rintro e w4 ⟨rfl, hb4⟩
        have HB4 := Lib.hid hb4
        clear hb4 hdl
        cases hfu : PV.full (all.drop k)
        · have HFU := Lib.hid hfu
          clear hfu
          go_wp2
          go_simp
          go_roundw
          case rel =>
            have hwf := HW.out.1
            rw [HST.out, HFU.out] at hwf
            exact ⟨k, k + 1, rfl, by go_num, HBW.out.1.trans (HB4.out.mono HBW.out.1.size), .inr ⟨by simpa using hwf.symm, rfl⟩⟩
          case measure => simp [intOf]; omega
        · have HFU := Lib.hid hfu
          clear hfu
          go_wp2
          go_simp
          go_roundw
          case rel =>
            have hwf := HW.out.1
            rw [HST.out, HFU.out] at hwf
            exact ⟨n, k + 1, rfl, by go_num, HBW.out.1.trans (HB4.out.mono HBW.out.1.size), .inl ⟨H2.out.2.2.1, by have := H2.out.2.2.1; omega, f, by simpa using hwf.symm, by have := H2.out.2.2.1; omega⟩⟩
          case measure => simp [intOf]; omega
    · have hki : ¬ (k : Int) < (n : Int) := by omega
      have hnw : n = PV.whole all := by
        rcases hrel with ⟨h1, h2, f, h3, h4⟩ | ⟨h1, h2⟩
        · rw [← h3, h1]
          cases f with
          | zero => rfl
          | succ f => rw [PV.wholeFrom, if_neg (by omega)]
        · exact h1
      have hnL : n ≤ L := by rw [hnw, H2.out.2.2.1]; exact PV.whole_le all
      have HNW := Lib.hid hnw
      have hBd : Blk wr d 84 #[.slice ha hn hk] := (HI.out.2.1.below H2.out.2.1 hdl).below HBW.out.1 (Nat.lt_of_lt_of_le hdl H2.out.2.1.size)
      have k0 : wr.cell? ⟨d, 0, none⟩ = some (.slice ha hn hk) := hBd.cell 0
      have l0 := hBd.frozen 0
      have HBD := Lib.hid hBd
      have hn0 : (0 : Int) ≤ (n : Int) := by omega
      have hnLi : (n : Int) ≤ (L : Int) := by omega
      have hnac : (n : Int) ≤ (ac : Int) := by omega
      have hda : d ≠ ab := fun e => by omega
      have htl : (all.take n).length = n := by rw [List.length_take, ← H2.out.2.2.1]; omega
      have hcv := fun (W : World) (hW : ∀ k (hk : k < all.length), W.cell? ⟨ab, ao + k, none⟩ = some (.int .u8 all[k].toNat)) => run_convert_bytes_back (P := Tryd.prog) W 23 9 5 ⟨ab, ao, none⟩ ac (all.take n) Tryd.underlying23 Tryd.underlying5 Tryd.underlying9 (fun j hj => by
        rw [Addr.add_lit, hW j (by rw [List.length_take] at hj; omega), List.getElem_take])
      have hcw : ∀ k (hk : k < all.length), wr.cell? ⟨ab, ao + k, none⟩ = some (.int .u8 all[k].toNat) := fun k hk => (HBW.out.1.cell (p := ⟨ab, ao + k, none⟩) H2.out.2.2.2.2.lt).trans (H2.out.2.2.2.1 k hk)
      have HCW := Lib.hid (And.intro hcv (And.intro hcw htl))
      clear hrel hnw hBd hcv hcw htl
      have hcv := fun (v : Value) => HCW.out.1 (wr.setCell ⟨d, 0, none⟩ v) (fun k hk => (World.cell?_setCell_other _ _ _ _ (by first | (simp; done) | (simp; intro e; exact absurd e.symm hda))).trans (HCW.out.2.1 k hk))
      rw [HCW.out.2.2] at hcv
      have hsz2 : (ByteArray.mk (all.take n).toArray).size ≤ 35184372088831 := by have := HCW.out.2.2; simp [ByteArray.size, ← Array.length_toList]; omega
      obtain ⟨str, hstr⟩ : ∃ str, str = ByteArray.mk (all.take n).toArray := ⟨_, rfl⟩
      rw [← hstr] at hcv hsz2
      have HSTR := Lib.hid hstr
      clear hstr
      have key : ∀ (vh : Value) (W : World) (v : Value) (ob : Option Nat), SlAt wr 5 1 vh (L - n) ((all.drop n).map bval) (some ab) → SlAt W 21 1 v (PV.runes str).length ((PV.runes str).map rval) ob → (∀ b, ob = some b → wr.heap.size ≤ b) → Below wr.heap.size (wr.setCell ⟨d, 0, none⟩ vh) W →
          FeedPost w d (all.drop (PV.whole all)) (PV.runes ⟨(all.take (PV.whole all)).toArray⟩) (.returned v) W := by
        intro vh W v ob h1 h2 h3 h4
        have hbw : Below w.heap.size w wr := H2.out.2.1.trans (HBW.out.1.mono H2.out.2.1.size)
        have hl : (all.drop n).length = L - n := by rw [List.length_drop, H2.out.2.2.1]
        rw [← HNW.out, ← HSTR.out]
        refine ⟨v, ob, vh, some ab, rfl, h2, fun b e => Nat.le_trans hbw.size (h3 b e), ?_, ?_, fun b e => by cases e; exact hab, ?_⟩
        · exact (HBD.out.set_ 0 vh).below h4 HBD.out.lt
        · rw [hl]
          exact (h1.far (a := ⟨d, 0, none⟩) (fun e => hda (Option.some.inj e).symm) vh).below h4 (fun b e => by cases e; exact HBW.out.2.2.lt)
        · have hg : w.grownBy (wr.setCell ⟨d, 0, none⟩ vh) (some d) := gb_set ⟨hbw.os, hbw.tape, hbw.output, hbw.size, fun k hk _ => hbw.block k hk⟩ 0 vh
          have hs4 := h4.size
          have hs5 := hg.size
          exact ⟨h4.os.trans hg.os, h4.tape.trans hg.tape, h4.output.trans hg.output, by omega, fun k hk hn => (h4.block k (by have := hbw.size; omega)).trans (hg.block k hk hn)⟩
      have hSw : SlAt wr 5 1 (.slice (some ⟨ab, ao, none⟩) L ac) L (all.map bval) (some ab) := by
        have h8 := H2.out.1.below HBW.out.1 (fun b e => by cases e; exact H2.out.2.2.2.2.lt)
        have e : all.map bval = x1 ++ x2 := by rw [HX.out.1, List.map_append, HX.out.2.2.2.1, HX.out.2.2.2.2.1]
        rw [e]
        exact h8
      have hSf := hSw.from hnL
      rw [Nat.mul_one, ← List.map_drop] at hSf
      have KEY := Lib.hid (And.intro key hSf)
      clear key hSf hSw
      by_cases hcn : ac = n
      · subst hcn
        go_wp2_with fail
        refine (runes_any str _ hsz2).mono ?_
        rintro e w5 ⟨v, ob, rfl, hS5, hob5, hb5⟩
        have H5 := Lib.hid (And.intro hS5 (And.intro hob5 hb5))
        clear hS5 hob5 hb5
        go_wp2
        go_ret
        have h8 := KEY.out.2
        rw [if_pos trivial] at h8
        have hv : (Value.slice (some ⟨ab, ao, none⟩) (L - ac) (ac - ac)) = .slice (some ⟨ab, ao, none⟩) 0 0 := by rw [show L - ac = 0 by have := H2.out.2.2.1; omega, Nat.sub_self]
        rw [hv] at h8
        exact KEY.out.1 _ _ _ _ h8 H5.out.1 (by simpa using H5.out.2.1) (by simpa using H5.out.2.2)
      · go_wp2_with fail
        refine (runes_any str _ hsz2).mono ?_
        rintro e w5 ⟨v, ob, rfl, hS5, hob5, hb5⟩
        have H5 := Lib.hid (And.intro hS5 (And.intro hob5 hb5))
        clear hS5 hob5 hb5
        go_wp2
        go_ret
        have h8 := KEY.out.2
        rw [if_neg hcn] at h8
        exact KEY.out.1 _ _ _ _ h8 H5.out.1 (by simpa using H5.out.2.1) (by simpa using H5.out.2.2)

end Go.Proofs.YtdbepelcgmnbbaaDoor
