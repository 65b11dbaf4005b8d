/- Bytes as acts. -/
import Derived.Test.YtdbepelcgmnbbaaDoorUtf
import Derived.Test.YtdbepelcgmnbbaaDoorDo
namespace Go.Proofs.YtdbepelcgmnbbaaDoor
open Go Go.RowKit

/-- An act in memory: its params' slice, and their block. -/
structure AR where
  a : PG.G.Act
  v : Value
  o : Option Nat
def acells (x : AR) : List Value := [.int .i64 x.a.kind, .int .i32 x.a.rune, .bool x.a.mark, x.v]
def aflat (R : List AR) : List Value := R.flatMap acells
theorem aflat_length (R : List AR) : (aflat R).length = R.length * 4 := by
  induction R with
  | nil => rfl
  | cons x R ih => simp only [aflat, List.flatMap_cons, List.length_append, List.length_cons] at *; rw [ih]; simp [acells]; omega
theorem aflat_snoc (R : List AR) (x : AR) : aflat (R ++ [x]) = aflat R ++ acells x := by simp [aflat]
theorem aflat_get (R : List AR) : ∀ (i : Nat) (x : AR), R[i]? = some x → (aflat R)[i * 4]? = some (.int .i64 x.a.kind) ∧ (aflat R)[i * 4 + 1]? = some (.int .i32 x.a.rune) ∧ (aflat R)[i * 4 + 2]? = some (.bool x.a.mark) ∧ (aflat R)[i * 4 + 3]? = some x.v := by
  induction R with
  | nil => intro i x h; simp at h
  | cons d r ih =>
    intro i c h
    cases i with
    | zero => simp at h; subst h; simp [aflat, acells]
    | succ i =>
      rw [List.getElem?_cons_succ] at h
      have := ih i c h
      have e : aflat (d :: r) = acells d ++ aflat r := by simp [aflat]
      rw [e]
      simp only [acells, List.cons_append, List.nil_append, show (i + 1) * 4 = i * 4 + 1 + 1 + 1 + 1 by omega, show i * 4 + 1 + 1 + 1 + 1 + 1 = i * 4 + 1 + 1 + 1 + 1 + 1 by omega, show i * 4 + 1 + 1 + 1 + 1 + 2 = i * 4 + 2 + 1 + 1 + 1 + 1 by omega, show i * 4 + 1 + 1 + 1 + 1 + 3 = i * 4 + 3 + 1 + 1 + 1 + 1 by omega, List.getElem?_cons_succ]
      exact this

theorem Tryd.infoAct : (Tryd.prog.info? 59).map (fun i => (i.zero, i.size, i.bytes)) = some (some (.agg #[.int .i64 0, .int .i32 0, .bool false, .slice none 0 0]), 4, 40) := by kernel_rfl

/-- The params of acts in memory, out of F. -/
def ARsAt (w : World) (B : Nat) (F : Nat → Prop) (R : List AR) : Prop := ∀ y ∈ R, ParamsAt w y.v y.a.params y.o ∧ ∀ b, y.o = some b → B ≤ b ∧ ¬ F b

/-- What Feed leaves. -/
def ActsPost (w : World) (q : Nat) (F : Nat → Prop) (x : PV.P × List PG.G.Act) (held : List UInt8) (e : Ending) (w' : World) : Prop :=
  ∃ (v : Value) (ob : Option Nat) (R : List AR) (F' : Nat → Prop), e = .returned v ∧ R.map AR.a = x.2 ∧ SlAt w' 59 4 v R.length (aflat R) ob ∧ (∀ b, ob = some b → w.heap.size ≤ b ∧ ¬ F' b) ∧ ARsAt w' w.heap.size F' R ∧ ParserAt w' q F' x.1 held ∧ Step F F' w w'

/-- The runes, one by one. -/
def RunesRel2 (w : World) (q : Nat) (F : Nat → Prop) (s : PV.P) (d : Nat) (rs : List Int) (out i : Value) (wr : World) : Prop :=
  ∃ (k : Nat) (oo : Option Nat) (R : List AR) (F' : Nat → Prop) (s' : PV.P), k ≤ rs.length ∧ i = .int .i64 k ∧ R.length ≤ k ∧ SlAt wr 59 4 out R.length (aflat R) oo ∧ (∀ b, oo = some b → w.heap.size ≤ b ∧ ¬ F' b) ∧ ARsAt wr w.heap.size F' R ∧ RunAt wr q F' s' d ∧ Step F F' w wr ∧
    (rs.take k).foldl PV.step (s, []) = (s', R.map AR.a)

theorem ARsAt.step {w W : World} {B : Nat} {F F' : Nat → Prop} {R : List AR} (h : ARsAt w B F R) (hs : Step F F' w W) : ARsAt W B F' R := by
  intro y hy
  obtain ⟨h1, h2⟩ := h y hy
  refine ⟨SlAt.step h1 hs (fun b e => (h2 b e).2), fun b e => ⟨(h2 b e).1, fun hF => ?_⟩⟩
  rcases hs.sub b hF with h' | h'
  · exact (h2 b e).2 h'
  · have := SlAt.lt h1 b e; omega
theorem out_step {w W : World} {B n : Nat} {F F' : Nat → Prop} {v : Value} {xs : List Value} {t : TypeId} {size : Nat} {ob : Option Nat} (h : SlAt w t size v n xs ob) (ho : ∀ b, ob = some b → B ≤ b ∧ ¬ F b) (hs : Step F F' w W) :
    SlAt W t size v n xs ob ∧ ∀ b, ob = some b → B ≤ b ∧ ¬ F' b := by
  refine ⟨h.step hs (fun b e => (ho b e).2), fun b e => ⟨(ho b e).1, fun hF => ?_⟩⟩
  rcases hs.sub b hF with h' | h'
  · exact (ho b e).2 h'
  · have := h.lt b e; omega
theorem Step.allocs {F : Nat → Prop} (w : World) (o : Obj) : Step F F w (w.alloc o) := (Step.refl F w).alloc o
/-- What grows by an append elsewhere. -/
theorem ARsAt.grown {w W : World} {B : Nat} {F : Nat → Prop} {R : List AR} {n : Nat} {v : Value} {xs : List Value} {ob : Option Nat} (h : ARsAt w B F R) (hg : w.grownBy W ob) (hS : SlAt w 59 4 v n xs ob) : ARsAt W B F R := by
  intro y hy
  obtain ⟨h1, h2⟩ := h y hy
  refine ⟨SlAt.same h1 fun b e => hg.block b (SlAt.lt h1 b e) (fun e' => ?_), h2⟩
  rw [← e'] at hS
  have h3 := h1
  unfold ParamsAt at h3
  rw [e] at h3
  exact (h3.ne_ hS (by decide)) rfl
theorem RunAt.grown {w W : World} {q d : Nat} {F : Nat → Prop} {s : PV.P} {ob : Option Nat} (h : RunAt w q F s d) (hg : w.grownBy W ob) (ho : ∀ b, ob = some b → ¬ F b) : RunAt W q F s d := by
  obtain ⟨h1, h2, vp, op, h3, h4, h5, h6⟩ := h
  exact ⟨h1, fun b hb => Nat.lt_of_lt_of_le (h2 b hb) hg.size, vp, op, h3.same (hg.block q h3.lt (fun e => ho q e.symm h5)), h4.same (fun b e => hg.block b (h4.lt b e) (fun e' => ho b e'.symm (h6 b e))), h5, h6⟩
theorem Step.grown {w w1 W : World} {F F1 : Nat → Prop} {ob : Option Nat} (h : Step F F1 w w1) (hg : w1.grownBy W ob) (ho : ∀ b, ob = some b → w.heap.size ≤ b) : Step F F1 w W :=
  ⟨hg.os.trans h.os, hg.tape.trans h.tape, hg.output.trans h.output, Nat.le_trans h.size hg.size, fun k hk hn => (hg.block k (Nat.lt_of_lt_of_le hk h.size) (fun e => by have := ho k e.symm; omega)).trans (h.block k hk hn), h.sub⟩

set_option maxRecDepth 20000 in
set_option maxHeartbeats 4000000 in
theorem vtFeed_any {w : World} (hT : Lib.Utf8Tabs 2 3 w) {q : Nat} {F : Nat → Prop} {s : PV.P} {held : List UInt8} (h : ParserAt w q F s held) (bs : List UInt8) (a : Option Addr) (c : Nat) (hb : CellsFrom w a (bs.map bval)) (hac : a = none → c = 0) (hsz : bs.length ≤ 1000000000000) :
    Calls Tryd.prog 19 #[.pointer (some ⟨q, 0, none⟩), .slice a bs.length c] w (ActsPost w q F (PV.feed s (PV.runes ⟨((held ++ bs).take (PV.whole (held ++ bs))).toArray⟩)) ((held ++ bs).drop (PV.whole (held ++ bs)))) := by
  obtain ⟨hh3, hF, F1, d, vh, oh, hR, hd, hh, hF1, hFd, hFo, hdn, hon⟩ := h
  obtain ⟨vp0, hbq⟩ := hR.blk
  have cq := pc_dec hbq
  obtain ⟨rs, hrs⟩ : ∃ rs, rs = PV.runes ⟨((held ++ bs).take (PV.whole (held ++ bs))).toArray⟩ := ⟨_, rfl⟩
  obtain ⟨hd', hhd'⟩ : ∃ x, x = (held ++ bs).drop (PV.whole (held ++ bs)) := ⟨_, rfl⟩
  have hcall := utfFeed_any hT hd held hh hh3 bs a c hb hac (by omega)
  rw [← hrs, ← hhd'] at hcall ⊢
  have hrl : rs.length ≤ 1000000000003 := by
    rw [hrs]
    unfold PV.runes
    refine Nat.le_trans (PV.length_runesFrom _ _ _) ?_
    simp [ByteArray.size]
    omega
  have hd3 : hd'.length ≤ 3 := by rw [hhd']; exact PV.whole_held _
  have HC := Lib.hid hcall
  have HI := Lib.hid (And.intro hF (And.intro hR (And.intro hF1 (And.intro hFd (And.intro hFo (And.intro hdn (And.intro hd3 hd)))))))
  obtain ⟨m, hm⟩ : ∃ m, m = bs.length := ⟨_, rfl⟩
  rw [← hm] at HC ⊢
  obtain ⟨i0, hi, hz0, hz1, hz2⟩ := info_parts Tryd.infoAct
  clear hcall hT hb hac hsz hh3 hF hR hd hh hF1 hFd hFo hdn hon hbq hrs hhd' hm
  go_enter Tryd.func19, Tryd.ntmps19
  go_wp2_with fail
  refine HC.out.mono ?_
  rintro e w1 ⟨v1, ob1, vh1, oh1, rfl, hS1, hob1, hd1, hh1, hoh1, hg1⟩
  obtain ⟨a1, k1, rfl, _⟩ := hS1.form
  obtain ⟨n, hn⟩ : ∃ n, n = rs.length := ⟨_, rfl⟩
  rw [← hn] at hS1 hrl ⊢
  have hR1 : RunAt w1 q F1 s d := HI.out.2.1.grown hg1 (fun b e => by cases e; exact HI.out.2.2.2.2.2.1)
  have hF1lt : ∀ b, F1 b → b < w.heap.size := fun b hb => HI.out.1 b (HI.out.2.2.1 b hb)
  have H1 := Lib.hid (And.intro hS1 (And.intro hob1 (And.intro hd1 (And.intro hh1 (And.intro hoh1 (And.intro hg1 (And.intro hR1 (And.intro hn hF1lt))))))))
  clear hS1 hob1 hd1 hh1 hoh1 hg1 hR1 hn hF1lt
  go_wp2_with fail
  go_loopw [5, 7, 8, 9, 17] (fun out _ _ _ i wr => RunesRel2 w1 q F1 s d rs out i wr) (fun _ _ _ _ i _ => n - (intOf i).toNat)
  case atStart => exact ⟨0, none, [], F1, s, Nat.zero_le _, rfl, Nat.le_refl _, SlAt.nil _ _ _, fun b e => (by cases e), fun y hy => (by cases hy), H1.out.2.2.2.2.2.2.1, Step.refl _ _, rfl⟩
  case round =>
    obtain ⟨k, oo, R, F', s', hk, rfl, hRk, hSo, hoo, hRs, hRun, hst, hfold⟩ := hrel
    obtain ⟨va, vk, rfl, _⟩ := hSo.form
    by_cases hlt : k < n
    · have hli : (k : Int) < (n : Int) := by omega
      have hl0 : (0 : Int) ≤ (k : Int) := by omega
      have hkr : k < rs.length := by have := H1.out.2.2.2.2.2.2.2.1; omega
      obtain ⟨rb, ro, rc, rcur, e1, e2, hrB, _⟩ := H1.out.1.some_ (H1.out.1.ob_ (by omega))
      cases e1
      obtain ⟨rn, hrn⟩ : ∃ rn, rn = rs[k] := ⟨_, rfl⟩
      have ck : wr.cell? ⟨rb, ro + k, none⟩ = some (.int .i32 rn) := by
        have h8 := H1.out.1.cells k (rval rn) (by rw [List.getElem?_map, List.getElem?_eq_getElem hkr, hrn]; rfl)
        exact hst.cell h8 (fun hF => by have := H1.out.2.2.2.2.2.2.2.2 _ hF; have := H1.out.2.1 _ e2; simp at *; omega)
      have hfold2 : (rs.take (k + 1)).foldl PV.step (s, []) = PV.step (s', R.map AR.a) rn := by
        rw [List.take_succ_eq_append_getElem hkr, List.foldl_append, hfold, hrn]; rfl
      obtain ⟨x, hx⟩ : ∃ x, x = PV.rune s' rn := ⟨_, rfl⟩
      have hcall := rune_any hRun rn
      rw [← hx] at hcall
      have HW := Lib.hid (And.intro hSo (And.intro hoo (And.intro hRs (And.intro hRun (And.intro hst (And.intro hfold2 hx))))))
      have HCL := Lib.hid hcall
      obtain ⟨rl, hrl2⟩ : ∃ rl, rl = R.length := ⟨_, rfl⟩
      rw [← hrl2] at hRk ⊢
      have HRL := Lib.hid hrl2
      clear hSo hoo hRs hRun hst hfold hfold2 hx hcall hrn hrB e2 hrl2
      go_wp2_with fail
      refine HCL.out.mono ?_
      rintro e w2 ⟨pv, ob2, F2, rfl, hP2, hob2, hR2, hst2⟩
      obtain ⟨pa, pk, rfl⟩ := ParamsAt.form hP2
      obtain ⟨s2, ⟨kd, rr, mk, ps⟩, ok⟩ := x
      simp only [actVal]
      have H2 := Lib.hid (And.intro hP2 (And.intro hob2 (And.intro hR2 hst2)))
      clear hP2 hob2 hR2 hst2
      cases ok
      · go_wp2
        go_simp
        go_roundw
        case rel =>
          obtain ⟨hSo, hoo, hRs, hRun, hst, hfold2, hx⟩ := HW.out
          obtain ⟨hP2, hob2, hR2, hst2⟩ := H2.out
          have hst3 := hst2.alloc (.cells #[.int .i64 kd, .int .i32 rr, .bool mk, .slice pa ps.length pk] 59)
          obtain ⟨hSo3, hoo3⟩ := out_step hSo hoo hst3
          refine ⟨k + 1, oo, R, F2, s2, by omega, by go_num, by have := HRL.out; omega, by rw [HRL.out]; exact hSo3, hoo3, hRs.step hst3, hR2.alloc _, hst.trans hst3, ?_⟩
          rw [hfold2]
          unfold PV.step
          simp only [← hx]
          rfl
        case measure => simp [intOf]; omega
      · have hmax : rl + 1 ≤ maxLen := by unfold maxLen; omega
        have hbd : (rl + 1) * 40 ≤ 140737488355328 := by omega
        go_wp2_with (at_builtin; refine wpList_append_sl _ rfl (.tmp 28) (.tmp 30) 56 56 rfl 59 i0 _ 4 40 Tryd.underlying56 hi hz0 hz1 hz2 rfl (.slice va rl vk) rl (aflat R) oo rfl ?c1 (.slice (some ⟨w2.heap.size + 1, 0, none⟩) 1 1) 1 [.int .i64 kd, .int .i32 rr, .bool mk, .slice pa ps.length pk] rfl ?c2 hmax hbd ?_)
        case c1 => rw [HRL.out]; exact (((out_step HW.out.1 HW.out.2.1 H2.out.2.2.2).1).alloc _).alloc _
        case c2 => exact SlAt.src (ob := some (w2.heap.size + 1)) (e := 59) ⟨rfl, .inr ⟨_, 0, 1, #[.int .i64 kd, .int .i32 rr, .bool mk, .slice pa ps.length pk], rfl, rfl, Blk.new_at (by simp), Nat.le_refl _, by simp, fun i x hx => by simpa using hx⟩⟩ Tryd.underlying56 (by intro u hu; simp at hu; rcases hu with rfl | rfl | rfl | rfl <;> rfl)
        intro v3 o3 w3 hS3 hg3 ho3
        have H3 := Lib.hid (And.intro hS3 (And.intro hg3 ho3))
        clear hS3 hg3 ho3
        go_wp2
        go_simp
        go_roundw
        case rel =>
          obtain ⟨hSo, hoo, hRs, hRun, hst, hfold2, hx⟩ := HW.out
          obtain ⟨hP2, hob2, hR2, hst2⟩ := H2.out
          obtain ⟨hS3, hg3, ho3⟩ := H3.out
          have hst3 := (hst2.alloc (.cells #[.int .i64 kd, .int .i32 rr, .bool mk, .slice pa ps.length pk] 59)).alloc (.cells #[.int .i64 kd, .int .i32 rr, .bool mk, .slice pa ps.length pk] 59)
          obtain ⟨hSo3, hoo3⟩ := out_step hSo hoo hst3
          have hs1 := hst.size
          have hs2 := hst2.size
          have hall := hRs.step hst3
          have hnew : ARsAt ((w2.alloc (.cells #[.int .i64 kd, .int .i32 rr, .bool mk, .slice pa ps.length pk] 59)).alloc (.cells #[.int .i64 kd, .int .i32 rr, .bool mk, .slice pa ps.length pk] 59)) w1.heap.size F2 (R ++ [⟨⟨kd, rr, mk, ps⟩, .slice pa ps.length pk, ob2⟩]) := by
            intro y hy
            rcases List.mem_append.1 hy with h | h
            · exact hall y h
            · simp at h
              subst h
              exact ⟨(SlAt.alloc hP2 _).alloc _, fun b e => ⟨by have := (hob2 b e).1; omega, (hob2 b e).2⟩⟩
          refine ⟨k + 1, o3, R ++ [⟨⟨kd, rr, mk, ps⟩, .slice pa ps.length pk, ob2⟩], F2, s2, by omega, by go_num, by have := HRL.out; simp; omega, ?_, fun b e => ?_, hnew.grown hg3 hSo3, ((hR2.alloc _).alloc _).grown hg3 (fun b e => (hoo3 b e).2), (hst.trans hst3).grown hg3 (fun b e => (hoo3 b e).1), ?_⟩
          · have hl := HRL.out
            rw [aflat_snoc]
            simpa [acells, ← hl] using hS3
          · rcases ho3 with h | h
            · exact hoo3 b (h ▸ e)
            · rw [h] at e
              cases e
              exact ⟨by omega, fun hF => by have := hR2.2.1 _ hF; omega⟩
          · rw [hfold2]
            unfold PV.step
            simp only [← hx]
            simp
        case measure => simp [intOf]; omega
    · obtain rfl : k = n := by have := H1.out.2.2.2.2.2.2.2.1; omega
      have HEND := Lib.hid (And.intro hSo (And.intro hoo (And.intro hRs (And.intro hRun (And.intro hst hfold)))))
      clear hSo hoo hRs hRun hst hfold
      go_wp2
      go_ret
      obtain ⟨hSo, hoo, hRs, hRun, hst, hfold⟩ := HEND.out
      obtain ⟨hS1, hob1, hd1, hh1, hoh1, hg1, hR1, hn, hF1lt⟩ := H1.out
      obtain ⟨hF, hR, hF1, hFd, hFo, hdn, hd3, hd⟩ := HI.out
      rw [show rs.take k = rs from List.take_of_length_le (by omega)] at hfold
      have e1 : (PV.feed s rs).1 = s' := by unfold PV.feed; rw [hfold]
      have e2 : (PV.feed s rs).2 = R.map AR.a := by unfold PV.feed; rw [hfold]
      have hs1 := hg1.size
      have hdl := hd.lt
      have hh2 := hh1.step hst (fun b e hF => by have := hF1lt b hF; have := hoh1 b e; omega)
      have hd2 := hst.blk hd1 hdn
      have hFn : ∀ b, F' b → F1 b ∨ w1.heap.size ≤ b := hst.sub
      have hFd2 : ¬ F' d := fun h => by rcases hFn d h with h | h; exact hdn h; omega
      have hFo2 : ∀ b, oh1 = some b → ¬ F' b := fun b e h => by
        have := hh1.lt b e
        have := hoh1 b e
        rcases hFn b h with h | h
        · have := hF1lt b h; omega
        · omega
      have hbig : ∀ b, w1.heap.size ≤ b → ¬ F' b → ¬ (F' b ∨ b = d ∨ oh1 = some b) := fun b h1 h2 h3 => by
        rcases h3 with h3 | h3 | h3
        · exact h2 h3
        · omega
        · have := hh1.lt b h3; omega
      refine ⟨_, oo, R, fun b => F' b ∨ b = d ∨ oh1 = some b, rfl, e2.symm, hSo, fun b e => ⟨by have := (hoo b e).1; omega, hbig b (hoo b e).1 (hoo b e).2⟩, fun y hy => ⟨(hRs y hy).1, fun b e => ⟨by have := ((hRs y hy).2 b e).1; omega, hbig b ((hRs y hy).2 b e).1 ((hRs y hy).2 b e).2⟩⟩, ?_, ?_⟩
      · rw [e1]
        refine ⟨hd3, fun b hb => ?_, F', d, vh1, oh1, hRun, hd2, hh2, fun b hb => .inl hb, .inr (.inl rfl), fun b e => .inr (.inr e), hFd2, hFo2⟩
        rcases hb with hb | hb | hb
        · exact hRun.2.1 b hb
        · rw [hb]; exact hd2.lt
        · exact hh2.lt b hb
      · refine ⟨hst.os.trans hg1.os, hst.tape.trans hg1.tape, hst.output.trans hg1.output, Nat.le_trans hs1 hst.size, fun b hb hn => ?_, fun b hb => ?_⟩
        · exact (hst.block b (by omega) (fun h => hn (hF1 b h))).trans (hg1.block b hb (fun e => hn (by rw [Option.some.inj e]; exact hFd)))
        · rcases hb with hb | hb | hb
          · rcases hFn b hb with h | h
            · exact .inl (hF1 b h)
            · exact .inr (by omega)
          · exact .inl (hb ▸ hFd)
          · exact .inr (hoh1 b hb)

end Go.Proofs.YtdbepelcgmnbbaaDoor
