/- What blank, slices.Repeat of one blank cell, and line give. -/
import Derived.Test.YtdbepelcgmnbbaaDoorCells
import Derived.Deep.Draws
import Derived.Laws.MathBits
namespace Go.Proofs.YtdbepelcgmnbbaaDoor
open Go Go.RowKit

set_option maxHeartbeats 400000 in
theorem blank_any (w : World) : Calls Tryd.prog 36 #[] w fun e w' => e = .returned (.agg #[.int .i32 32, .int .i64 0, .int .i64 0, .int .i64 0]) ∧ Below w.heap.size w w' ∧ w'.heap.size = w.heap.size + 1 := by
  go_enter Tryd.func36, Tryd.ntmps36
  go_wp2
  exact bodyPost_ret (v := .agg #[.int .i32 32, .int .i64 0, .int .i64 0, .int .i64 0]) (by simp [results, Tryd.results36, go_sem]) rfl ⟨rfl, (Below.refl _ _).alloc (Nat.le_refl _) _, by simp⟩

theorem low32 (n : Nat) (hn : n ≤ 1000) : bits .and .u64 (n : Int) 4294967295 = n := by rw [and_low32 _ (by omega) (by omega)]; omega
theorem low32_1 : bits .and .u64 1 4294967295 = 1 := by rw [and_low32 _ (by omega) (by omega)]; rfl
theorem low32_0 : bits .and .u64 0 4294967295 = 0 := by rw [and_low32 _ (by omega) (by omega)]; rfl
theorem div32 (n : Nat) (hn : n ≤ 1000) : (n : Int) / 4294967296 = 0 := by omega
set_option maxHeartbeats 1000000 in
theorem mul64_one (n : Nat) (w : World) (hn : n ≤ 1000) : Calls Tryd.prog 69 #[.int .u64 1, .int .u64 n] w fun e w' => e = .returned (.tuple #[.int .u64 0, .int .u64 n]) ∧ w = w' := by
  have h1 := low32 n hn
  have h2 := low32_1
  have h3 := low32_0
  have h4 := div32 n hn
  go_enter Tryd.func69, Tryd.ntmps69
  go_wp2
  go_ret2
  exact ⟨by simp, rfl⟩
set_option maxHeartbeats 1000000 in
theorem mul_one (n : Nat) (w : World) (hn : n ≤ 1000) : Calls Tryd.prog 55 #[.int .u64 1, .int .u64 n] w fun e w' => e = .returned (.tuple #[.int .u64 0, .int .u64 n]) ∧ w = w' := by
  go_enter Tryd.func55, Tryd.ntmps55
  go_wp2_with (go_at_call 69; refine (mul64_one _ _ hn).mono ?_; rintro e w' ⟨rfl, rfl⟩)
  go_ret2
  exact ⟨by simp, rfl⟩
def blanks (k n : Nat) : PG.Line := List.replicate k PG.blank ++ List.replicate (n - k) PG.zeroCell
theorem blanks_over (k n m : Nat) (h : m ≤ n - k) : over (blanks k n) k (List.replicate m PG.blank) = blanks (k + m) n := by
  unfold blanks; rw [over_replicate _ _ _ _ _ h, Nat.sub_sub]
theorem length_blanks (k n : Nat) (h : k ≤ n) : (blanks k n).length = n := by simp [blanks]; omega
theorem blanks_take (k n m : Nat) (h : m ≤ k) : (blanks k n).take m = List.replicate m PG.blank := by
  unfold blanks; rw [List.take_append_of_le_length (by simpa using h), List.take_replicate]; congr 1; omega

def RepeatRel (n B : Nat) (w : World) (v : Value) (wr : World) : Prop :=
  ∃ k : Nat, k ≤ n ∧ (0 < n → 0 < k) ∧ v = .int .i64 k ∧ SlAt wr 42 4 (.slice (some ⟨B, 0, none⟩) n n) n (flat (blanks k n)) (some B) ∧ Below B w wr

set_option maxRecDepth 20000 in
set_option maxHeartbeats 1000000 in
theorem repeat_any (x : Nat) (n : Nat) (w : World) (hx : Blk w x 42 #[.int .i32 32, .int .i64 0, .int .i64 0, .int .i64 0]) (hn : n ≤ 1000) :
    Calls Tryd.prog 35 #[.slice (some ⟨x, 0, none⟩) 1 1, .int .i64 n] w fun e w' => ∃ v g, e = .returned v ∧ SlAt w' 42 4 v n (flat (PG.line n)) (some g) ∧ w.heap.size ≤ g ∧ Below w.heap.size w w' := by
  obtain ⟨i0, hi, hz0, hz1, hz2⟩ := info_parts Tryd.infoCell
  have hmk := fun W => run_make_rowN (P := Tryd.prog) 40 42 i0 _ Tryd.underlying40 hi hz0 .i64 .i64 n n (Nat.le_refl _) (by rw [hz2]; omega) (by omega) W
  rw [hz1] at hmk
  obtain ⟨z, hzz⟩ : ∃ z, z = madeCells (Value.agg #[.int .i32 0, .int .i64 0, .int .i64 0, .int .i64 0]).cells (n * 4) := ⟨_, rfl⟩
  rw [← hzz] at hmk
  have hz : z.toList = flat (blanks 0 n) := by rw [hzz]; exact madeCells_zero n
  have HZ := Lib.hid hz
  clear hz hzz
  have hsx := hx.alloc (.cells z 42)
  have hsx1 : CellsFrom (w.alloc (.cells z 42)) (some ⟨x, 0, none⟩) (flat (List.replicate (min 1 n) PG.blank)) := by
    have := (CellsFrom.of_blk hsx).take (min 1 n * 4)
    rcases Nat.lt_or_ge 0 n with h | h
    · rw [show min 1 n = 1 by omega] at this ⊢
      simpa [flat, cellVals, PG.blank] using this
    · rw [show min 1 n = 0 by omega]
      exact .inl rfl
  have hB0 : Blk (w.alloc (.cells z 42)) w.heap.size 42 z := Blk.new w 42 z
  have hfit1 : 0 + (flat (List.replicate (min 1 n) PG.blank)).length ≤ z.size := by
    have hzl : z.size = n * 4 := by rw [← Array.length_toList, HZ.out, length_flat, length_blanks _ _ (Nat.zero_le _)]
    rw [length_flat, List.length_replicate, hzl]; omega
  have hS0 : SlAt (w.alloc (.cells z 42)) 42 4 (.slice (some ⟨w.heap.size, 0, none⟩) n n) n (flat (blanks 0 n)) (some w.heap.size) := by
    have hl : (flat (blanks 0 n)).length = n * 4 := by rw [length_flat, length_blanks _ _ (Nat.zero_le _)]
    have hzl : z.size = n * 4 := by rw [← hl, ← HZ.out]; simp
    refine ⟨hl, .inr ⟨_, 0, n, z, rfl, rfl, hB0, Nat.le_refl _, by omega, fun i u hu => ?_⟩⟩
    rw [← HZ.out] at hu
    simpa using hu
  go_enter Tryd.func35, Tryd.ntmps35
  go_wp2_with (first
    | (go_at_call 55; refine (mul_one _ _ hn).mono ?_; rintro e w' ⟨rfl, rfl⟩)
    | (with_reducible refine wpList_copy_to _ rfl (.tmp 31) (.tmp 32) 40 40 rfl 42 i0 4 Tryd.underlying40 hi hz1 _ _ _ _ _ _ (min 1 n) rfl rfl rfl w.heap.size 0 z 42 hB0 (flat (List.replicate (min 1 n) PG.blank)) (by rw [length_flat, List.length_replicate]) (fun _ => rfl) hsx1 hfit1 (flat_one _) ?_))
  intro w1 hB1 hg1 hs1
  have hS1 : SlAt w1 42 4 (.slice (some ⟨w.heap.size, 0, none⟩) n n) n (flat (blanks (min 1 n) n)) (some w.heap.size) := by
    have := hS0.laid (cs := flat (List.replicate (min 1 n) PG.blank)) hB0 (0 * 4) (by rw [length_flat, length_flat, List.length_replicate]; have := length_blanks 0 n (Nat.zero_le _); omega) (by simpa using hB1)
    rw [flat_over, blanks_over _ _ _ (by omega), Nat.zero_add] at this
    exact this
  have hb1 : Below w.heap.size w w1 := ((Below.refl w.heap.size w).alloc (Nat.le_refl _) (.cells z 42)).grown hg1 (by simp) (fun k hk => by cases hk; exact Nat.le_refl _)
  clear hB1 hg1 hs1 hS0 hB0 hsx hmk
  go_wp2_with fail
  go_loopw [8] (RepeatRel n w.heap.size w) (fun v _ => n - (intOf v).toNat)
  case atStart => exact ⟨min 1 n, by omega, by omega, by go_num, hS1, hb1⟩
  case round =>
    obtain ⟨k, hk, hk0, rfl, hS, hb⟩ := hrel
    by_cases hlt : k < n
    · have hk1 := hk0 (by omega)
      obtain ⟨b', o', cap', cur, hv, hbb, hB, hcc, hsz, hx'⟩ := hS.some_ (by simp)
      have hne : ¬ n = k := by omega
      cases hbb
      cases hv
      have hlb : (flat (blanks k n)).length = n * 4 := by rw [length_flat, length_blanks _ _ hk]
      have hcur : Blk wr.drew w.heap.size 42 cur := hB
      have hlen : (flat (List.replicate (min k (n - k)) PG.blank)).length = min k (n - k) * 4 := by rw [length_flat, List.length_replicate]
      have hsrc : CellsFrom wr.drew (some ⟨w.heap.size, 0, none⟩) (flat (List.replicate (min k (n - k)) PG.blank)) := by
        rw [← blanks_take k n _ (Nat.min_le_left _ _), flat_take]
        exact (SlAt.from_ (w := wr.drew) hS).take _
      have hfit : k * 4 + (flat (List.replicate (min k (n - k)) PG.blank)).length ≤ cur.size := by rw [hlen]; omega
      go_wp2_with fail
      have hw : IntKind.i64.wrap ((k : Int) + ((min k (n - k) : Nat) : Int)) = ((k + min k (n - k) : Nat) : Int) := by rw [IntWalk.i64_in _ (by omega)]; omega
      go_region_law (refine step_copy_to _ (by rfl) (.tmp 41) (.tmp 44) 40 40 (by rfl) 42 i0 4 Tryd.underlying40 hi hz1 (some ⟨w.heap.size, k * 4, none⟩) (some ⟨w.heap.size, 0, none⟩) (n - k) (n - k) k n (min k (n - k)) (by go_simp) (by go_simp) rfl w.heap.size (k * 4) cur 42 hcur (flat (List.replicate (min k (n - k)) PG.blank)) hlen (fun _ => rfl) hsrc hfit (flat_one _) ?_; intro w2 hB2 hg2 hs2)
      have hS2 : SlAt w2 42 4 (.slice (some ⟨w.heap.size, 0, none⟩) n n) n (flat (blanks (k + min k (n - k)) n)) (some w.heap.size) := by
        have := (SlAt.drew hS).laid (cs := flat (List.replicate (min k (n - k)) PG.blank)) hcur (k * 4) (by rw [length_flat, length_flat, List.length_replicate]; have := length_blanks k n hk; omega) (by simpa using hB2)
        rw [flat_over, blanks_over _ _ _ (by omega)] at this
        exact this
      have hb2 : Below w.heap.size w w2 := hb.drew.grown hg2 hb.size (fun k hk => by cases hk; exact Nat.le_refl _)
      clear hB2 hg2 hs2 hcur hsrc hS hb hB hx'
      go_wp2
      have hpos : 0 < n → 0 < k + min k (n - k) := by omega
      have hle : k + min k (n - k) ≤ n := by omega
      go_simp
      go_roundw
      case rel => exact ⟨k + min k (n - k), hle, hpos, by go_num, hS2, hb2⟩
      case measure => simp [intOf]; omega
    · have hkn : k = n := by omega
      subst hkn
      go_wp2
      go_ret
      refine ⟨_, _, rfl, ?_, Nat.le_refl _, hb⟩
      have e : blanks k k = PG.line k := by simp [blanks, PG.line]
      rw [e] at hS
      exact hS
end Go.Proofs.YtdbepelcgmnbbaaDoor
