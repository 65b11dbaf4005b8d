/- What the statements' own functions give: a number within bounds, a number as text. -/
import Derived.Test.YtdbepelcgmnbbaaDoorText
namespace Go.Proofs.YtdbepelcgmnbbaaDoor
open Go Go.RowKit

def PickPost (m : Nat) (w : World) (e : Ending) (w' : World) : Prop := ∃ k : Nat, k < m ∧ e = .returned (.int .i64 k) ∧ w = w'

set_option maxRecDepth 20000 in
set_option maxHeartbeats 400000 in
theorem pick_any (w : World) (n : Int) (m : Nat) (hm : 0 < m) (hm2 : m ≤ 1000000) :
    Calls Tryd.prog 5 #[.int .i64 n, .int .i64 m] w (PickPost m w) := by
  have h1 := Int.tmod_lt_of_pos n (show (0 : Int) < m by omega)
  have h2 : -(m : Int) < Int.tmod n m := by
    have := Int.lt_tmod_of_pos n (show (0 : Int) < m by omega)
    exact this
  obtain ⟨r, hr⟩ : ∃ r, Int.tmod n m = r := ⟨_, rfl⟩
  rw [hr] at h1 h2
  have hw : IntKind.i64.wrap r = r := by simp [IntKind.wrap, IntKind.bits, IntKind.signed]; omega
  have hm0 : ((m : Int) == 0) = false := by simp; omega
  have HP := Lib.hid (And.intro h1 h2)
  by_cases hneg : r < 0
  · have hd : decide (r < 0) = true := by simpa using hneg
    have hw2 : IntKind.i64.wrap (r + m) = r + m := by simp [IntKind.wrap, IntKind.bits, IntKind.signed]; omega
    clear h1 h2
    go_enter Tryd.func5, Tryd.ntmps5
    go_wp2
    go_ret
    exact ⟨(r + m).toNat, by have := HP.out; omega, by rw [Int.toNat_of_nonneg (by have := HP.out; omega)]; rfl, rfl⟩
  · have hd : decide (r < 0) = false := by simpa using hneg
    clear h1 h2
    go_enter Tryd.func5, Tryd.ntmps5
    go_wp2
    go_ret
    exact ⟨r.toNat, by have := HP.out; omega, by rw [Int.toNat_of_nonneg (by omega)]; rfl, rfl⟩

def NumPost (k : Nat) (w : World) (e : Ending) (w' : World) : Prop := ∃ s : ByteArray, e = .returned (.string s) ∧ s.size ≤ k ∧ Below w.heap.size w w'

theorem bytes_one_string (w : World) (z : Int) (c : Nat) (h0 : 0 ≤ z) (h1 : z < 256) :
    (convert 23 9 (.slice (some ⟨w.heap.size, 0, none⟩) 1 c)).run Tryd.prog (w.alloc (.cells #[.int .u8 z] 5)) = .ok (.string ⟨#[UInt8.ofNat z.toNat]⟩) (w.alloc (.cells #[.int .u8 z] 5)) := by
  refine run_convert_bytes_back (P := Tryd.prog) _ 23 9 5 ⟨w.heap.size, 0, none⟩ c [UInt8.ofNat z.toNat] Tryd.underlying23 Tryd.underlying5 Tryd.underlying9 (fun j hj => ?_)
  have hj0 : j = 0 := by simpa using hj
  subst hj0
  refine (World.cell?_alloc_mark w #[.int .u8 z] 5 _ 0).trans ?_
  simp
  omega

set_option maxRecDepth 20000 in
set_option maxHeartbeats 400000 in
theorem number_small (w : World) (n : Nat) (hn : n < 10) : Calls Tryd.prog 18 #[.int .i64 n] w (NumPost 1 w) := by
  have hd : decide ((n : Int) < 10) = true := by simp; omega
  have hd2 : decide (n < 10) = true := by simp; omega
  have hw1 : IntKind.i64.wrap (48 + (n : Int)) = 48 + n := by simp [IntKind.wrap, IntKind.bits, IntKind.signed]; omega
  have hw2 : IntKind.u8.wrap (48 + (n : Int)) = 48 + n := by simp [IntKind.wrap, IntKind.bits, IntKind.signed]; omega
  have hcv := fun c => bytes_one_string w (48 + (n : Int)) c (by omega) (by omega)
  have HN := Lib.hid hn
  clear hn
  go_enter Tryd.func18, Tryd.ntmps18
  go_wp2
  go_ret
  exact ⟨_, rfl, by simp [ByteArray.size], (Below.refl _ w).alloc (Nat.le_refl _) _⟩

theorem size_append (s t : ByteArray) : (s ++ t).size = s.size + t.size := by simp

set_option maxRecDepth 20000 in
set_option maxHeartbeats 400000 in
theorem number_any : ∀ (k : Nat) (w : World) (n : Nat), k ≤ 20 → n < 10 ^ (k + 1) → n ≤ 1000000 → Calls Tryd.prog 18 #[.int .i64 n] w (NumPost (2 ^ k) w) := by
  intro k
  induction k with
  | zero => exact fun w n _ hn _ => number_small w n (by simpa using hn)
  | succ k ih =>
    intro w n hk hn hm
    have h3k : 2 ^ k ≤ 2 ^ 20 := Nat.pow_le_pow_right (by omega) (by omega)
    have h2k : 1 ≤ 2 ^ k := Nat.one_le_two_pow
    by_cases hlt : n < 10
    · refine (number_small w n hlt).mono ?_
      rintro e w' ⟨s, h1, h2, h3⟩
      exact ⟨s, h1, by rw [Nat.pow_succ]; omega, h3⟩
    · have hd : decide ((n : Int) < 10) = false := decide_eq_false (by omega)
      have hd2 : decide (n < 10) = false := decide_eq_false (by omega)
      have hq : Int.tdiv (n : Int) 10 = ((n / 10 : Nat) : Int) := by simp
      have hr : Int.tmod (n : Int) 10 = ((n % 10 : Nat) : Int) := by rw [Int.tmod_eq_emod_of_nonneg (by omega)]; simp
      obtain ⟨q, hqe⟩ : ∃ q, q = n / 10 := ⟨_, rfl⟩
      obtain ⟨r, hre⟩ : ∃ r, r = n % 10 := ⟨_, rfl⟩
      rw [← hqe] at hq
      rw [← hre] at hr
      have hw1 : IntKind.i64.wrap (q : Int) = q := by simp [IntKind.wrap, IntKind.bits, IntKind.signed]; omega
      have hw2 : IntKind.i64.wrap (r : Int) = r := by simp [IntKind.wrap, IntKind.bits, IntKind.signed]; omega
      have c1 := fun w => ih w q (by omega) (by rw [Nat.pow_succ] at hn; omega) (by omega)
      have c2 := fun w => number_small w r (by omega)
      have HX := Lib.hid (And.intro h2k (And.intro c1 (And.intro c2 h3k)))
      clear hn hlt hqe hre h2k h3k c1 c2 ih
      go_enter Tryd.func18, Tryd.ntmps18
      go_wp2_with fail
      refine (HX.out.2.1 w).mono ?_
      rintro e w1 ⟨s1, rfl, hs1, hb1⟩
      have HB1 := Lib.hid (And.intro hs1 hb1)
      clear hs1 hb1
      go_wp2_with fail
      refine (HX.out.2.2.1 w1).mono ?_
      rintro e w2 ⟨s2, rfl, hs2, hb2⟩
      have HB2 := Lib.hid (And.intro hs2 hb2)
      have hsz : s1.size + s2.size ≤ 9223372036854775807 := by have := HB1.out.1; have := HX.out.2.2.2; omega
      have hsz2 : ¬ 9223372036854775807 < s1.size + s2.size := by omega
      clear hs2 hb2
      go_wp2
      go_ret
      refine ⟨_, rfl, ?_, HB1.out.2.trans (HB2.out.2.mono HB1.out.2.size)⟩
      have := HB1.out.1
      have := HB2.out.1
      have := HX.out.1
      rw [Nat.pow_succ]
      first | (rw [size_append]; omega) | skip

end Go.Proofs.YtdbepelcgmnbbaaDoor

namespace Go.Proofs.YtdbepelcgmnbbaaDoor
open Go Go.RowKit

/-- Numbers that a slice holds. -/
def IntsAt (w : World) (a : Option Addr) (n : Nat) : Prop := ∀ j, j < n → ∃ b o z, a = some ⟨b, o, none⟩ ∧ b < w.heap.size ∧ w.cell? ⟨b, o + j, none⟩ = some (.int .i64 z)
theorem IntsAt.below {w w' : World} {a : Option Addr} {n : Nat} (h : IntsAt w a n) (hb : Below w.heap.size w w') : IntsAt w' a n := fun j hj => by
  obtain ⟨b, o, z, h1, h2, h3⟩ := h j hj
  exact ⟨b, o, z, h1, Nat.lt_of_lt_of_le h2 hb.size, (hb.cell (p := ⟨b, o + j, none⟩) h2).trans h3⟩
/-- A variable's row of texts. -/
def StrTab (w : World) (g n : Nat) : Prop := g < w.heap.size ∧ ∀ j, j < n → ∃ s : ByteArray, w.cell? ⟨g, j, none⟩ = some (.string s) ∧ s.size ≤ 8
theorem StrTab.below {w w' : World} {g n : Nat} (h : StrTab w g n) (hb : Below w.heap.size w w') : StrTab w' g n :=
  ⟨Nat.lt_of_lt_of_le h.1 hb.size, fun j hj => by obtain ⟨s, h1, h2⟩ := h.2 j hj; exact ⟨s, (hb.cell (p := ⟨g, j, none⟩) h.1).trans h1, h2⟩⟩

def OutRel (w : World) (i sv : Value) (wr : World) : Prop := ∃ (k : Nat) (s : ByteArray), k ≤ 80 ∧ i = .int .i64 k ∧ sv = .string s ∧ s.size ≤ 200 * k ∧ Below w.heap.size w wr
def OutPost (w : World) (e : Ending) (w' : World) : Prop := ∃ s : ByteArray, e = .returned (.string s) ∧ s.size ≤ 16000 ∧ Below w.heap.size w w'

theorem byte_one_string (w : World) (b : UInt8) (c : Nat) :
    (convert 23 9 (.slice (some ⟨w.heap.size, 0, none⟩) 1 c)).run Tryd.prog (w.alloc (.cells #[.int .u8 b.toNat] 5)) = .ok (.string ⟨#[b]⟩) (w.alloc (.cells #[.int .u8 b.toNat] 5)) := by
  have h := bytes_one_string w b.toNat c (by omega) (by have := b.toNat_lt; omega)
  simpa using h

set_option maxRecDepth 20000 in
set_option maxHeartbeats 2000000 in
theorem output_any (w : World) (hp : StrTab w 0 34) (hm : StrTab w 1 22) (a : Option Addr) (n c rows : Nat) (hn : n ≤ 9223372036854775807) (hr : rows ≤ 100) (hl : IntsAt w a n) :
    Calls Tryd.prog 9 #[.slice a n c, .int .i64 rows] w (OutPost w) := by
  have hw2 : IntKind.i64.wrap ((rows : Int) + 2) = ((rows + 2 : Nat) : Int) := by simp [IntKind.wrap, IntKind.bits, IntKind.signed]; omega
  have hw3 : IntKind.i64.wrap ((rows : Int) + 3) = ((rows + 3 : Nat) : Int) := by simp [IntKind.wrap, IntKind.bits, IntKind.signed]; omega
  have hw2' : (rows : Int) + 2 = ((rows + 2 : Nat) : Int) := by omega
  have hw3' : (rows : Int) + 3 = ((rows + 3 : Nat) : Int) := by omega
  have HW2 := Lib.hid (And.intro hw2' hw3')
  clear hw2' hw3'
  have HH := Lib.hid (And.intro hp (And.intro hm (And.intro hl hr)))
  clear hp hm hl hr
  go_enter Tryd.func9, Tryd.ntmps9
  go_wp2_with fail
  go_loopw [5, 6] (fun s i wr => OutRel w i s wr) (fun _ i _ => 80 - (intOf i).toNat)
  case atStart => exact ⟨0, _, Nat.zero_le _, rfl, rfl, by simp [ByteArray.size], Below.refl _ _⟩
  case round =>
    obtain ⟨k, s, hk, rfl, rfl, hs, hb⟩ := hrel
    have HB := Lib.hid (And.intro hs hb)
    clear hs hb
    by_cases hlt : k < n ∧ k < 80
    · have d1 : decide ((k : Int) < n) = true := by simp; omega
      have d2 : decide ((k : Int) < 80) = true := by simp; omega
      have d3 : decide (k < n) = true := by simp; omega
      have d4 : decide (k < 80) = true := by simp; omega
      have d5 : k < n := hlt.1
      obtain ⟨b, o, z, rfl, hbl, hz⟩ := HH.out.2.2.1 k hlt.1
      have hz2 : wr.cell? ⟨b, o + k, none⟩ = some (.int .i64 z) := (HB.out.2.cell (p := ⟨b, o + k, none⟩) hbl).trans hz
      have hsz : ∀ x : ByteArray, x.size ≤ 300 → ¬ 9223372036854775807 < s.size + x.size := fun x hx => by have := HB.out.1; omega
      have HSZ := Lib.hid hsz
      clear hsz
      go_wp2_with fail
      refine (pick_any wr z 64 (by omega) (by omega)).mono ?_
      rintro e w1 ⟨q, hq, rfl, rfl⟩
      have hq0 : (0 : Int) ≤ (q : Int) := by omega
      by_cases h34 : q < 34
      · have e1 : decide ((q : Int) < 34) = true := by simp; omega
        have e2 : decide (q < 34) = true := by simp; omega
        have e3 : (q : Int) < 34 := by omega
        obtain ⟨x, hx, hx8⟩ := (HH.out.1.below HB.out.2).2 q h34
        have hs1 := HSZ.out x (by omega)
        have hs2 : s.size + x.size ≤ 9223372036854775807 := by omega
        have HX := Lib.hid hx8
        clear hx8
        go_wp2
        go_roundw
        case rel => exact ⟨k + 1, _, by omega, by go_num, rfl, (by have := HB.out.1; have := HX.out; rw [size_append]; omega), HB.out.2⟩
        case measure => simp [intOf]; omega
      · have e1 : decide ((q : Int) < 34) = false := decide_eq_false (by omega)
        have e2 : decide (q < 34) = false := decide_eq_false (by omega)
        by_cases h56 : q < 56
        · have e3 : decide ((q : Int) < 56) = true := by simp; omega
          have e4 : decide (q < 56) = true := by simp; omega
          have e5 : (q : Int) - 34 = ((q - 34 : Nat) : Int) := by omega
          have e6 : IntKind.i64.wrap ((q - 34 : Nat) : Int) = ((q - 34 : Nat) : Int) := by simp [IntKind.wrap, IntKind.bits, IntKind.signed]; omega
          have e7 : ((q - 34 : Nat) : Int) < 22 := by omega
          have e8 : (0 : Int) ≤ ((q - 34 : Nat) : Int) := by omega
          obtain ⟨x, hx, hx8⟩ := (HH.out.2.1.below HB.out.2).2 (q - 34) (by omega)
          have hs1 := HSZ.out x (by omega)
          have hs2 : s.size + x.size ≤ 9223372036854775807 := by omega
          have HX := Lib.hid hx8
          clear hx8
          obtain ⟨r, hr⟩ : ∃ r, r = q - 34 := ⟨_, rfl⟩
          rw [← hr] at e5 e6 e7 e8 hx
          have HR := Lib.hid hr
          clear hr
          go_wp2
          go_roundw
          case rel => exact ⟨k + 1, _, by omega, by go_num, rfl, (by have := HB.out.1; have := HX.out; rw [size_append]; omega), HB.out.2⟩
          case measure => simp [intOf]; omega
        · have e3 : decide ((q : Int) < 56) = false := decide_eq_false (by omega)
          have e4 : decide (q < 56) = false := decide_eq_false (by omega)
          have hss : s.size ≤ 16000 := by have := HB.out.1; omega
          have g0 : s.size + 2 ≤ 9223372036854775807 := by omega
          have g0' : ¬ 9223372036854775807 < s.size + 2 := by omega
          have hsl : ∀ x : UInt8, (⟨#[x]⟩ : ByteArray).size = 1 := fun _ => rfl
          have hs27 : (⟨#[27, 91]⟩ : ByteArray).size = 2 := rfl
          by_cases h59 : q < 59
          · have e5 : decide ((q : Int) < 59) = true := by simp; omega
            have e6 : decide (q < 59) = true := by simp; omega
            go_wp2_with fail
            rw [HW2.out.1]
            refine (pick_any wr _ (rows + 2) (by omega) (by have := HH.out.2.2.2; omega)).mono ?_
            rintro e w1 ⟨q2, hq2, rfl, rfl⟩
            go_wp2_with fail
            refine (number_any 2 wr q2 (by omega) (by have := HH.out.2.2.2; omega) (by have := HH.out.2.2.2; omega)).mono ?_
            rintro e w1 ⟨s1, rfl, hs1, hb1⟩
            have HB1 := Lib.hid (And.intro hs1 (HB.out.2.trans (hb1.mono HB.out.2.size)))
            have g1 : s.size + 2 + s1.size ≤ 9223372036854775807 := by omega
            have g1' : ¬ 9223372036854775807 < s.size + 2 + s1.size := by omega
            have g2 : s.size + 2 + s1.size + 1 ≤ 9223372036854775807 := by omega
            have g2' : ¬ 9223372036854775807 < s.size + 2 + s1.size + 1 := by omega
            clear hs1 hb1
            go_wp2_with fail
            rw [HW2.out.2]
            refine (pick_any w1 _ (rows + 3) (by omega) (by have := HH.out.2.2.2; omega)).mono ?_
            rintro e w2 ⟨q3, hq3, rfl, rfl⟩
            go_wp2_with fail
            refine (number_any 2 w1 q3 (by omega) (by have := HH.out.2.2.2; omega) (by have := HH.out.2.2.2; omega)).mono ?_
            rintro e w2 ⟨s2, rfl, hs2, hb2⟩
            have HB2 := Lib.hid (And.intro hs2 (HB1.out.2.trans (hb2.mono HB1.out.2.size)))
            have g3 : s.size + 2 + s1.size + 1 + s2.size ≤ 9223372036854775807 := by have := HB1.out.1; omega
            have g3' : ¬ 9223372036854775807 < s.size + 2 + s1.size + 1 + s2.size := by omega
            have g4 : s.size + 2 + s1.size + 1 + s2.size + 1 ≤ 9223372036854775807 := by have := HB1.out.1; omega
            have g4' : ¬ 9223372036854775807 < s.size + 2 + s1.size + 1 + s2.size + 1 := by omega
            clear hs2 hb2
            go_wp2
            go_roundw
            case rel => exact ⟨k + 1, _, by omega, by go_num, rfl, (by have := HB.out.1; have := HB1.out.1; have := HB2.out.1; simp only [size_append, hsl, hs27]; omega), HB2.out.2⟩
            case measure => simp [intOf]; omega
          · have e5 : decide ((q : Int) < 59) = false := decide_eq_false (by omega)
            have e6 : decide (q < 59) = false := decide_eq_false (by omega)
            go_wp2_with fail
            refine (pick_any wr _ 12 (by omega) (by omega)).mono ?_
            rintro e w1 ⟨q2, hq2, rfl, rfl⟩
            go_wp2_with fail
            refine (number_any 1 wr q2 (by omega) (by omega) (by omega)).mono ?_
            rintro e w1 ⟨s1, rfl, hs1, hb1⟩
            have HB1 := Lib.hid (And.intro hs1 (HB.out.2.trans (hb1.mono HB.out.2.size)))
            have g1 : s.size + 2 + s1.size ≤ 9223372036854775807 := by omega
            have g1' : ¬ 9223372036854775807 < s.size + 2 + s1.size := by omega
            have g2 : s.size + 2 + s1.size + 1 ≤ 9223372036854775807 := by omega
            have g2' : ¬ 9223372036854775807 < s.size + 2 + s1.size + 1 := by omega
            clear hs1 hb1
            go_wp2_with fail
            refine (pick_any w1 _ 18 (by omega) (by omega)).mono ?_
            rintro e w2 ⟨q3, hq3, rfl, rfl⟩
            have k0 : (0 : Int) ≤ (q3 : Int) := by omega
            have k1 : (q3 : Int) < 18 := by omega
            have hcv := fun b c => byte_one_string w1 b c
            go_wp2
            go_roundw
            case rel => exact ⟨k + 1, _, by omega, by go_num, rfl, (by have := HB.out.1; have := HB1.out.1; simp only [size_append, hsl, hs27]; omega), HB1.out.2.alloc HB1.out.2.size _⟩
            case measure => simp [intOf]; omega
    · have hfin : decide (k < n) = false ∨ decide (k < 80) = false := by simp; omega
      rcases hfin with hf | hf
      · have d1 : decide ((k : Int) < n) = false := decide_eq_false (by simp at hf; omega)
        go_wp2
        go_ret
        exact ⟨s, rfl, by have := HB.out.1; omega, HB.out.2⟩
      · have d1 : decide ((k : Int) < 80) = false := decide_eq_false (by simp at hf; omega)
        by_cases hkn : k < n
        · have d3 : decide ((k : Int) < n) = true := by simp; omega
          have d4 : decide (k < n) = true := by simp; omega
          go_wp2
          go_ret
          exact ⟨s, rfl, by have := HB.out.1; omega, HB.out.2⟩
        · have d3 : decide ((k : Int) < n) = false := decide_eq_false (by omega)
          have d4 : decide (k < n) = false := decide_eq_false (by omega)
          go_wp2
          go_ret
          exact ⟨s, rfl, by have := HB.out.1; omega, HB.out.2⟩

end Go.Proofs.YtdbepelcgmnbbaaDoor
