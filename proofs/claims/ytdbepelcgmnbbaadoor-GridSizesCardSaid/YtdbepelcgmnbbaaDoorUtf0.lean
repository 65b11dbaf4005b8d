/- Is a rune begun, is it whole? -/
import Derived.Test.YtdbepelcgmnbbaaDoorActs
import Derived.Test.YtdbepelcgmnbbaaDoorVtPure
import Derived.Test.YtdbepelcgmnbbaaDoorCells
import Derived.Shelf.Unicode.DecodeSlow
import Derived.BigQuiet
import Derived.Deep.QuietTactic
namespace Go.Proofs.YtdbepelcgmnbbaaDoor
open Go Go.RowKit

set_option maxRecDepth 100000 in
theorem start_bits : ∀ x : Fin 256, (bits .and .u8 ((x.val : Nat) : Int) 192 != 128) = decide (x.val / 64 ≠ 2) := by decide
set_option maxRecDepth 100000 in
theorem low3_bits : ∀ x : Fin 256, bits .and .u8 ((x.val : Nat) : Int) 7 = ((x.val % 8 : Nat) : Int) := by decide

theorem below_drewN {B : Nat} {w W : World} (h : Below B w W) (n : Nat) : Below B w (W.drewN n) := ⟨h.os, h.tape, h.output, h.size, h.block⟩

set_option maxHeartbeats 400000 in
theorem runeStart_any (b : UInt8) (w : World) : Calls Tryd.prog 40 #[.int .u8 b.toNat] w fun e w' => e = .returned (.bool (PV.start b)) ∧ w = w' := by
  have h : (bits .and .u8 ((b.toNat : Nat) : Int) 192 != 128) = PV.start b := start_bits ⟨b.toNat, b.toNat_lt⟩
  obtain ⟨s, hs⟩ : ∃ s, s = PV.start b := ⟨_, rfl⟩
  rw [← hs] at h ⊢
  clear hs
  go_enter Tryd.func40, Tryd.ntmps40
  go_wp2
  go_ret
  exact ⟨rfl, rfl⟩

set_option maxRecDepth 20000 in
set_option maxHeartbeats 1000000 in
theorem fullRune_any {w : World} (hT : Lib.Utf8Tabs 2 3 w) (l : List UInt8) (b o cap : Nat) (hl : 0 < l.length) (hc : ∀ i (h : i < l.length), w.cell? ⟨b, o + i, none⟩ = some (.int .u8 l[i].toNat)) (hm : l.length ≤ 100000000000000) :
    Calls Tryd.prog 41 #[.slice (some ⟨b, o, none⟩) l.length cap] w fun e w' => e = .returned (.bool (PV.full l)) ∧ Below w.heap.size w w' := by
  obtain ⟨b0, r, rfl⟩ : ∃ b0 r, l = b0 :: r := by
    cases l with
    | nil => simp at hl
    | cons b0 r => exact ⟨b0, r, rfl⟩
  obtain ⟨x, hx⟩ : ∃ x, x = Lib.firstT b0.toNat := ⟨_, rfl⟩
  have hxl : x ≤ 241 := by have := Lib.firstT_cases b0.toNat; rw [← hx] at this; omega
  have hx16 : x / 16 < 16 := by omega
  have c0 : w.cell? ⟨b, o, none⟩ = some (.int .u8 b0.toNat) := hc 0 (Nat.succ_pos _)
  have t0 : w.cell? ⟨2, b0.toNat, none⟩ = some (.int .u8 x) := by rw [hx]; exact hT.1 b0.toNat b0.toNat_lt
  obtain ⟨lo, hlo⟩ : ∃ lo, lo = Lib.accLo (x / 16) := ⟨_, rfl⟩
  obtain ⟨hi, hhi⟩ : ∃ hi, hi = Lib.accHi (x / 16) := ⟨_, rfl⟩
  have a0 := (hT.2 (x / 16) hx16).1
  have a1 := (hT.2 (x / 16) hx16).2
  rw [Nat.mul_comm 2 (x / 16)] at a0 a1
  rw [← hlo] at a0
  rw [← hhi] at a1
  have hb0 := b0.toNat_lt
  have hbl : b < w.heap.size := World.block_lt_of_cell? w _ c0
  have hbne : b ≠ w.heap.size := Nat.ne_of_lt hbl
  have hl3 : bits .and .u8 (x : Int) 7 = ((x % 8 : Nat) : Int) := low3_bits ⟨x, by omega⟩
  have HX := Lib.hid (And.intro hx (And.intro hlo hhi))
  have HC := Lib.hid hc
  clear hx hlo hhi hc hT
  obtain ⟨n, hnl⟩ : ∃ n, n = (b0 :: r).length := ⟨_, rfl⟩
  rw [← hnl] at hm ⊢
  have hn1 : 1 ≤ n := by rw [hnl]; simp
  by_cases hn : x % 8 ≤ n
  · have hni : ((x % 8 : Nat) : Int) ≤ (n : Int) := by omega
    have hnj : decide ((x : Int) % 8 ≤ (n : Int)) = true := by simp; omega
    have e : PV.full (b0 :: r) = true := by unfold PV.full; simp only; rw [← HX.out.1, if_pos (by rw [hnl] at hn; simpa using hn)]
    rw [e]
    clear e hnl
    go_enter Tryd.func41, Tryd.ntmps41
    go_wp2
    go_ret
    exact ⟨rfl, Below.refl _ _⟩
  · have hni : ¬ ((x % 8 : Nat) : Int) ≤ (n : Int) := by omega
    have hnj : decide ((x : Int) % 8 ≤ (n : Int)) = false := by simp; omega
    have hnr : ¬ x % 8 ≤ r.length + 1 := by rw [hnl] at hn; simpa using hn
    cases r with
    | nil =>
      obtain rfl : n = 1 := by rw [hnl]; rfl
      have e : PV.full [b0] = false := by unfold PV.full; simp only; rw [← HX.out.1, if_neg hnr]
      rw [e]
      clear e hnl hnr
      go_enter Tryd.func41, Tryd.ntmps41
      go_wp2_with fail
      go_quiet (fail)
      go_wp2
      go_ret
      exact ⟨rfl, below_drewN ((Below.refl _ _).alloc (Nat.le_refl _) _) _⟩
    | cons c r =>
      have c1 : w.cell? ⟨b, o + 1, none⟩ = some (.int .u8 c.toNat) := HC.out 1 (by simp)
      have hcc := c.toNat_lt
      have g1 : (1 : Int) < (n : Int) := by rw [hnl]; simp; omega
      have g1b : decide ((1 : Int) < (n : Int)) = true := by simpa using g1
      have g1c : decide (1 < n) = true := by simp; omega
      by_cases hcl : c.toNat < lo
      · have q1 : decide ((c.toNat : Int) < (lo : Int)) = true := by simp; omega
        have q2 : decide (c.toNat < lo) = true := by simpa using hcl
        have e : PV.full (b0 :: c :: r) = true := by unfold PV.full; simp only; rw [← HX.out.1, if_neg hnr, ← HX.out.2.1, if_pos (.inl hcl)]
        rw [e]
        clear e hnl hnr
        go_enter Tryd.func41, Tryd.ntmps41
        go_wp2_with fail
        go_quiet (fail)
        go_wp2
        go_ret
        exact ⟨rfl, below_drewN ((Below.refl _ _).alloc (Nat.le_refl _) _) _⟩
      · have q1 : decide ((c.toNat : Int) < (lo : Int)) = false := by simp; omega
        have q2 : decide (c.toNat < lo) = false := by simpa using hcl
        by_cases hch : hi < c.toNat
        · have q3 : decide ((hi : Int) < (c.toNat : Int)) = true := by simp; omega
          have q4 : decide (hi < c.toNat) = true := by simpa using hch
          have e : PV.full (b0 :: c :: r) = true := by unfold PV.full; simp only; rw [← HX.out.1, if_neg hnr, ← HX.out.2.1, ← HX.out.2.2, if_pos (.inr hch)]
          rw [e]
          clear e hnl hnr
          go_enter Tryd.func41, Tryd.ntmps41
          go_wp2_with fail
          go_quiet (fail)
          go_wp2
          go_ret
          exact ⟨rfl, below_drewN ((Below.refl _ _).alloc (Nat.le_refl _) _) _⟩
        · have q3 : decide ((hi : Int) < (c.toNat : Int)) = false := by simp; omega
          have q4 : decide (hi < c.toNat) = false := by simpa using hch
          have hlh : ¬ (c.toNat < lo ∨ hi < c.toNat) := by omega
          cases r with
          | nil =>
            obtain rfl : n = 2 := by rw [hnl]; rfl
            have e : PV.full [b0, c] = false := by unfold PV.full; simp only; rw [← HX.out.1, if_neg hnr, ← HX.out.2.1, ← HX.out.2.2, if_neg hlh]
            rw [e]
            clear e hnl hnr
            go_enter Tryd.func41, Tryd.ntmps41
            go_wp2_with fail
            go_quiet (fail)
            go_wp2
            go_ret
            exact ⟨rfl, below_drewN ((Below.refl _ _).alloc (Nat.le_refl _) _) _⟩
          | cons d r =>
            have c2 : w.cell? ⟨b, o + 2, none⟩ = some (.int .u8 d.toNat) := HC.out 2 (by simp)
            have hdd := d.toNat_lt
            have g2 : (2 : Int) < (n : Int) := by rw [hnl]; simp; omega
            have g2b : decide ((2 : Int) < (n : Int)) = true := by simpa using g2
            have g2c : decide (2 < n) = true := by simp; omega
            have e0 : PV.full (b0 :: c :: d :: r) = (decide (d.toNat < 128) || decide (191 < d.toNat)) := by unfold PV.full; simp only; rw [← HX.out.1, if_neg hnr, ← HX.out.2.1, ← HX.out.2.2, if_neg hlh]
            by_cases h1 : d.toNat < 128
            · have q5 : decide ((d.toNat : Int) < 128) = true := by simp; omega
              have q6 : decide (d.toNat < 128) = true := by simpa using h1
              have e : PV.full (b0 :: c :: d :: r) = true := by rw [e0, q6]; rfl
              rw [e]
              clear e e0 hnl hnr
              go_enter Tryd.func41, Tryd.ntmps41
              go_wp2_with fail
              go_quiet (fail)
              go_wp2
              go_ret
              exact ⟨rfl, below_drewN ((Below.refl _ _).alloc (Nat.le_refl _) _) _⟩
            · have q5 : decide ((d.toNat : Int) < 128) = false := by simp; omega
              have q6 : decide (d.toNat < 128) = false := by simpa using h1
              by_cases h2 : 191 < d.toNat
              · have q7 : decide ((191 : Int) < (d.toNat : Int)) = true := by simp; omega
                have q8 : decide (191 < d.toNat) = true := by simpa using h2
                have e : PV.full (b0 :: c :: d :: r) = true := by rw [e0, q6, q8]; rfl
                rw [e]
                clear e e0 hnl hnr
                go_enter Tryd.func41, Tryd.ntmps41
                go_wp2_with fail
                go_quiet (fail)
                go_wp2
                go_ret
                exact ⟨rfl, below_drewN ((Below.refl _ _).alloc (Nat.le_refl _) _) _⟩
              · have q7 : decide ((191 : Int) < (d.toNat : Int)) = false := by simp; omega
                have q8 : decide (191 < d.toNat) = false := by simpa using h2
                have e : PV.full (b0 :: c :: d :: r) = false := by rw [e0, q6, q8]; rfl
                rw [e]
                clear e e0 hnl hnr
                go_enter Tryd.func41, Tryd.ntmps41
                go_wp2_with fail
                go_quiet (fail)
                go_wp2
                go_ret
                exact ⟨rfl, below_drewN ((Below.refl _ _).alloc (Nat.le_refl _) _) _⟩

end Go.Proofs.YtdbepelcgmnbbaaDoor
