/- A line as text. -/
import Derived.Test.YtdbepelcgmnbbaaDoorUtf
import Derived.Test.YtdbepelcgmnbbaaDoorUp
import Derived.Laws.Cover4
namespace Go.Proofs.YtdbepelcgmnbbaaDoor
open Go Go.RowKit

/-- What utf.Text and strings.TrimRight give. -/
def trimSp : List UInt8 → List UInt8
  | l => (l.reverse.dropWhile (· == 32)).reverse
def lineText (l : PG.Line) : List UInt8 := trimSp (runesBytes (l.map PG.Cell.rune)).data.toList

set_option maxHeartbeats 400000 in
theorem utfText_any (w : World) (rs : List Int) (v : Value) (ob : Option Nat) (h : SlAt w 21 1 v rs.length (rs.map rval) ob) :
    Calls Tryd.prog 39 #[v] w fun e w' => e = .returned (.string (runesBytes rs)) ∧ w = w' := by
  obtain ⟨a, c, rfl, _⟩ := h.form
  obtain ⟨n, hn⟩ : ∃ n, n = rs.length := ⟨_, rfl⟩
  obtain ⟨s, hs⟩ : ∃ s, s = runesBytes rs := ⟨_, rfl⟩
  have hcv : (convert 75 9 (.slice a n c)).run Tryd.prog w = .ok (.string s) w := by
    rcases h.2 with ⟨h1, h2, _⟩ | ⟨b, o, cap, cur, h1, h2, hB, hc, hz, hx⟩
    · have hr : rs = [] := List.eq_nil_of_length_eq_zero h2
      subst hr
      cases h1
      have hn0 : n = 0 := hn
      subst hn0
      rw [hs]
      exact run_convert_runes_nil w 75 9 21 _ _ Tryd.underlying75 Tryd.underlying21 Tryd.underlying9
    · cases h1
      have h9 := run_convert_runes (P := Tryd.prog) w 75 9 21 ⟨b, o, none⟩ n c rs (by omega) Tryd.underlying75 Tryd.underlying21 Tryd.underlying9 (fun j hj => by
        rw [Addr.add_lit, hB.cell, hx j (.int .i32 (rs.getD j 0)) (by rw [List.getElem?_map, List.getElem?_eq_getElem hj, List.getD_eq_getElem?_getD, List.getElem?_eq_getElem hj]; rfl)])
      rw [hn, List.take_length] at h9
      rw [hs, hn]
      exact h9
  rw [← hs, ← hn]
  clear h hs hn
  go_enter Tryd.func39, Tryd.ntmps39
  go_wp2
  go_ret
  exact ⟨rfl, rfl⟩

/-- The bytes behind which nothing but spaces stands. -/
theorem bytes_snoc (t : ByteArray) (h : t.size - 1 < t.size) : t.data.toList = (t.extract 0 (t.size - 1)).data.toList ++ [t[t.size - 1]] := by
  have h1 : t.size = t.data.toList.length := by rw [Array.length_toList]; rfl
  have h2 : (t.extract 0 (t.size - 1)).data.toList = t.data.toList.take (t.size - 1) := by
    simp [ByteArray.data_extract]
    rw [List.dropLast_eq_take, ← h1]
  rw [h2]
  have h3 : t[t.size - 1] = t.data.toList[t.size - 1]'(by omega) := by rfl
  rw [h3, List.take_append_getElem, List.take_of_length_le (by omega)]
theorem bytes_eq (t : ByteArray) (l : List UInt8) (h : t.data.toList = l) : t = ⟨l.toArray⟩ := by
  subst h
  rfl

def TrimRel (s : ByteArray) (v : Value) : Prop := ∃ t : ByteArray, v = .string t ∧ t.size ≤ s.size ∧ trimSp t.data.toList = trimSp s.data.toList
def strSize : Value → Nat
  | .string t => t.size
  | _ => 0

theorem trimSp_snoc (l : List UInt8) : trimSp (l ++ [32]) = trimSp l := by
  simp [trimSp]
theorem trimSp_end (l : List UInt8) (c : UInt8) (h : c ≠ 32) : trimSp (l ++ [c]) = l ++ [c] := by
  simp [trimSp, h]

set_option maxRecDepth 20000 in
set_option maxHeartbeats 1000000 in
theorem trimRightByte_any (w : World) (s : ByteArray) (hs : s.size ≤ 1000000) :
    Calls Tryd.prog 56 #[.string s, .int .u8 32] w fun e w' => e = .returned (.string ⟨(trimSp s.data.toList).toArray⟩) ∧ w = w' := by
  go_enter Tryd.func56, Tryd.ntmps56
  go_wp2_with fail
  go_loop [0] (fun v => TrimRel s v) (fun v => strSize v)
  case atStart => exact ⟨s, rfl, Nat.le_refl _, rfl⟩
  case round =>
    obtain ⟨t, rfl, ht, htr⟩ := hrel
    have HT := Lib.hid htr
    clear htr
    by_cases h0 : 0 < t.size
    · have h0i : (0 : Int) < (t.size : Int) := by omega
      have h0b : decide ((0 : Int) < (t.size : Int)) = true := by simpa using h0i
      have h0c : decide (0 < t.size) = true := by simpa using h0
      have hlt : t.size - 1 < t.size := by omega
      have HS := Lib.hid (bytes_snoc t hlt)
      have hsz : (t.extract 0 (t.size - 1)).size ≤ s.size ∧ (t.extract 0 (t.size - 1)).size < t.size := by simp only [ByteArray.size_extract]; omega
      have HSZ := Lib.hid hsz
      clear hsz
      go_wp2
      · have hc : (t[t.size - 1].toNat : Int) == 32 := by assumption
        have hc2 : t[t.size - 1] = 32 := by
          have h8 : t[t.size - 1].toNat = 32 := by have := beq_iff_eq.1 hc; omega
          exact UInt8.toNat_inj.1 h8
        refine ⟨⟨t.extract 0 (t.size - 1), rfl, HSZ.out.1, ?_⟩, HSZ.out.2⟩
        rw [← HT.out, HS.out, hc2, trimSp_snoc]
      · have hc : ((t[t.size - 1].toNat : Int) == 32) = false := by assumption
        have hc2 : t[t.size - 1] ≠ 32 := by
          intro e
          rw [e] at hc
          simp at hc
        go_ret
        refine ⟨?_, rfl⟩
        rw [← HT.out, HS.out, trimSp_end _ _ hc2, ← HS.out]
        rfl
    · have h0b : decide ((0 : Int) < (t.size : Int)) = false := decide_eq_false (by omega)
      have h0c : decide (0 < t.size) = false := by simpa using h0
      have hz : t.data.toList = [] := List.eq_nil_of_length_eq_zero (by have : t.size = t.data.toList.length := (by rw [Array.length_toList]; rfl); omega)
      have HZ := Lib.hid hz
      clear hz
      go_wp2
      go_ret
      refine ⟨?_, rfl⟩
      rw [← HT.out, HZ.out, bytes_eq t [] HZ.out]
      rfl

set_option maxRecDepth 20000 in
set_option maxHeartbeats 400000 in
theorem trimRight_any (w : World) (s : ByteArray) (hs : s.size ≤ 1000000) :
    Calls Tryd.prog 38 #[.string s, .string ⟨#[32]⟩] w fun e w' => e = .returned (.string ⟨(trimSp s.data.toList).toArray⟩) ∧ w = w' := by
  by_cases h0 : s.data.toList = []
  · have hs0 := bytes_eq s [] h0
    subst hs0
    go_enter Tryd.func38, Tryd.ntmps38
    go_wp2
    go_ret
    exact ⟨rfl, rfl⟩
  · have hn : s.toList.isEmpty = false := by rw [ByteArray.toList_eq]; simpa using h0
    have hn2 : ¬ s.toList = [] := by rw [ByteArray.toList_eq]; exact h0
    have e32 : ((⟨#[32]⟩ : ByteArray)[0]'(by decide)).toNat = 32 := rfl
    have HN := Lib.hid (And.intro h0 hn2)
    clear h0 hn2
    go_enter Tryd.func38, Tryd.ntmps38
    go_wp2_with fail
    refine (trimRightByte_any w s hs).mono ?_
    rintro e w' ⟨rfl, rfl⟩
    go_wp2
    go_ret
    exact ⟨rfl, rfl⟩

def TextRel (w : World) (l : PG.Line) (v i : Value) (wr : World) : Prop :=
  ∃ (k : Nat) (ob : Option Nat), k ≤ l.length ∧ i = .int .i64 k ∧ SlAt wr 21 1 v k ((l.take k).map fun c => rval c.rune) ob ∧ (∀ b, ob = some b → w.heap.size ≤ b) ∧ Below w.heap.size w wr

theorem lineText_eq (l : PG.Line) : lineText l = trimSp (runesBytes (l.map PG.Cell.rune)).data.toList := rfl

set_option maxRecDepth 20000 in
set_option maxHeartbeats 1000000 in
theorem text_any (w : World) (l : PG.Line) (v : Value) (ob : Option Nat) (h : SlAt w 42 4 v l.length (flat l) ob) (hl : l.length ≤ 1000) :
    Calls Tryd.prog 27 #[v] w fun e w' => e = .returned (.string ⟨(lineText l).toArray⟩) ∧ Below w.heap.size w w' := by
  obtain ⟨i0, hi, hz0, hz1, hz2⟩ := info_parts Tryd.infoRune
  obtain ⟨a, c, rfl, _⟩ := h.form
  have H := Lib.hid h
  obtain ⟨n, hn⟩ : ∃ n, n = l.length := ⟨_, rfl⟩
  rw [← hn] at H hl ⊢
  have HN := Lib.hid hn
  clear h hn
  go_enter Tryd.func27, Tryd.ntmps27
  go_wp2_with fail
  go_loopw [3, 5, 8] (fun v _ i wr => TextRel w l v i wr) (fun _ _ i _ => n - (intOf i).toNat)
  case atStart => exact ⟨0, none, Nat.zero_le _, rfl, SlAt.nil _ _ _, fun b e => (by cases e), Below.refl _ _⟩
  case round =>
    obtain ⟨k, oo, hk, rfl, hS, hoo, hb⟩ := hrel
    obtain ⟨va, vk, rfl, _⟩ := hS.form
    by_cases hlt : k < n
    · have hli : (k : Int) < (n : Int) := by omega
      have hk0 : (0 : Int) ≤ (k : Int) := by omega
      have hkl : k < l.length := by have := HN.out; omega
      obtain ⟨cb, co, cc, ccur, e1, e2, hB, _⟩ := H.out.some_ (H.out.ob_ (by omega))
      cases e1
      obtain ⟨cl, hcl⟩ : ∃ cl, cl = l[k] := ⟨_, rfl⟩
      have hLk : l[k]? = some cl := by rw [List.getElem?_eq_getElem hkl, hcl]
      obtain ⟨z0, z1, z2, z3⟩ := flat_get l k cl hLk
      have hcell : ∀ j u, (flat l)[j]? = some u → wr.cell? ⟨cb, co + j, none⟩ = some u := fun j u hj => (hb.cell (p := ⟨cb, co + j, none⟩) hB.lt).trans (H.out.cells j u hj)
      have k0 : wr.cell? ⟨cb, co + k * 4, none⟩ = some (.int .i32 cl.rune) := hcell _ _ z0
      have k1 : wr.cell? ⟨cb, co + k * 4 + 1, none⟩ = some (.int .i64 cl.fg) := by rw [Nat.add_assoc]; exact hcell _ _ z1
      have k2 : wr.cell? ⟨cb, co + k * 4 + 2, none⟩ = some (.int .i64 cl.bg) := by rw [Nat.add_assoc]; exact hcell _ _ z2
      have k3 : wr.cell? ⟨cb, co + k * 4 + 3, none⟩ = some (.int .i64 cl.style) := by rw [Nat.add_assoc]; exact hcell _ _ z3
      obtain ⟨vals, hvals⟩ : ∃ vals, vals = (l.take k).map fun c => rval c.rune := ⟨_, rfl⟩
      rw [← hvals] at hS
      have HW := Lib.hid (And.intro hS (And.intro hoo (And.intro hb (And.intro hvals hcl))))
      have hmax : k + 1 ≤ maxLen := by unfold maxLen; omega
      have hbd : (k + 1) * 4 ≤ 140737488355328 := by omega
      clear hS hoo hb hvals hcl hLk z0 z1 z2 z3 hcell hB e2
      go_wp2_with (at_builtin; refine wpList_append_sl _ rfl (.tmp 12) (.tmp 15) 75 75 rfl 21 i0 _ 1 4 Tryd.underlying75 hi hz0 hz1 hz2 rfl (.slice va k vk) k vals oo rfl ?c1 (.slice (some ⟨wr.heap.size + 1, 0, none⟩) 1 1) 1 [.int .i32 cl.rune] rfl ?c2 hmax hbd ?_)
      case c1 => exact (HW.out.1.alloc _).alloc _
      case c2 => exact SlAt.src (ob := some (wr.heap.size + 1)) (e := 21) ⟨rfl, .inr ⟨_, 0, 1, #[.int .i32 cl.rune], rfl, rfl, Blk.new_at (by simp), Nat.le_refl _, by simp, fun i x hx => by simpa using hx⟩⟩ Tryd.underlying75 (by intro u hu; simp at hu; subst hu; rfl)
      intro v5 o5 w5 hS5 hg5 ho5
      have H5 := Lib.hid (And.intro hS5 (And.intro hg5 ho5))
      clear hS5 hg5 ho5
      go_wp2
      go_simp
      go_roundw
      case rel =>
        obtain ⟨hS, hoo, hb, hvals, hcl⟩ := HW.out
        obtain ⟨hS5, hg5, ho5⟩ := H5.out
        have hs := hb.size
        refine ⟨k + 1, o5, by omega, by go_num, ?_, fun b e => ?_, ?_⟩
        · rw [List.take_succ_eq_append_getElem hkl, List.map_append, ← hvals, ← hcl]
          exact hS5
        · rcases ho5 with h | h
          · exact hoo b (h ▸ e)
          · rw [h] at e; cases e; first | omega | (simp; omega)
        · exact ((hb.alloc hs _).alloc (by simp; omega) _).grown hg5 (by simp; omega) hoo
      case measure => simp [intOf]; omega
    · have hkn : k = n := by have := HN.out; omega
      subst hkn
      have hle : k = l.length := HN.out
      have hS2 : SlAt wr 21 1 (.slice va k vk) (l.map PG.Cell.rune).length ((l.map PG.Cell.rune).map rval) oo := by
        rw [List.take_of_length_le (by omega)] at hS
        rw [List.length_map, ← hle, List.map_map]
        exact hS
      have HE := Lib.hid (And.intro hS2 hb)
      have hsz : (runesBytes (l.map PG.Cell.rune)).size ≤ 1000000 := by
        have := runesBytes_size_le (l.map PG.Cell.rune)
        rw [List.length_map] at this
        omega
      obtain ⟨str, hstr⟩ : ∃ str, str = runesBytes (l.map PG.Cell.rune) := ⟨_, rfl⟩
      rw [← hstr] at hsz
      have HST := Lib.hid hstr
      clear hS2 hS hoo hb hle hstr
      go_wp2_with fail
      refine (utfText_any wr (l.map PG.Cell.rune) _ oo HE.out.1).mono ?_
      rintro e w1 ⟨rfl, rfl⟩
      rw [← HST.out]
      go_wp2_with fail
      refine (trimRight_any wr str hsz).mono ?_
      rintro e w1 ⟨rfl, rfl⟩
      go_wp2
      go_ret
      exact ⟨by rw [lineText_eq, ← HST.out]; rfl, HE.out.2⟩

end Go.Proofs.YtdbepelcgmnbbaaDoor
