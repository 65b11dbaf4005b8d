/- What a screen is told leaves its size as it is. -/
import Derived.Test.YtdbepelcgmnbbaaDoorInv
import Derived.Test.YtdbepelcgmnbbaaDoorTerm
import Derived.BigQuiet
namespace Go.Proofs.YtdbepelcgmnbbaaDoor.PG
namespace G
def Sz (g' g : G) : Prop := g'.rows = g.rows ∧ g'.cols = g.cols
theorem Sz.refl (g : G) : Sz g g := ⟨rfl, rfl⟩
theorem Sz.trans {a b c : G} (h : Sz a b) (k : Sz b c) : Sz a c := ⟨h.1.trans k.1, h.2.trans k.2⟩
theorem Sz.fold {α : Type} {f : G → α → G} (hf : ∀ g a, Sz (f g a) g) : ∀ (l : List α) (g : G), Sz (l.foldl f g) g
  | [], g => .refl g
  | a :: l, g => (Sz.fold hf l (f g a)).trans (hf g a)
theorem sz_move (g : G) (r c : Int) : Sz (g.move r c) g := ⟨rfl, rfl⟩
theorem sz_take (g : G) (r n : Nat) : Sz (g.take r n) g := ⟨rfl, rfl⟩
theorem sz_put (g : G) (r n : Nat) : Sz (g.put r n) g := ⟨rfl, rfl⟩
theorem sz_up (g : G) (n : Nat) : Sz (g.up n) g := by
  unfold up
  simp only
  split <;> exact ⟨rfl, rfl⟩
theorem sz_down (g : G) (n : Nat) : Sz (g.down n) g := ⟨rfl, rfl⟩
theorem sz_index (g : G) : Sz g.index g := by
  unfold index
  simp only
  repeat' split
  all_goals first | exact ⟨rfl, rfl⟩ | exact sz_up _ _ | exact (sz_up _ _).trans ⟨rfl, rfl⟩ | exact (sz_move _ _ _).trans ⟨rfl, rfl⟩
theorem sz_print (g : G) (r : Int) : Sz (g.print r) g := by
  have h1 : Sz g.wrapped g := by
    unfold wrapped
    split
    · exact (sz_index _).trans ⟨rfl, rfl⟩
    · exact .refl g
  have h2 : Sz g.wrapped.inserted g.wrapped := by
    unfold inserted
    split <;> exact ⟨rfl, rfl⟩
  have h3 := h2.trans h1
  unfold print
  simp only
  split
  · exact Sz.trans ⟨rfl, rfl⟩ h3
  · exact Sz.trans ⟨rfl, rfl⟩ h3
theorem sz_control (g : G) (r : Int) : Sz (g.control r) g := by
  unfold control
  repeat' split
  all_goals first | exact .refl g | exact sz_move _ _ _ | exact sz_index g
theorem sz_esc (g : G) (r : Int) : Sz (g.esc r) g := by
  unfold esc
  simp only
  repeat' split
  all_goals first | exact ⟨rfl, rfl⟩ | exact sz_index g | exact (sz_index _).trans ⟨rfl, rfl⟩ | exact (sz_down _ _).trans ⟨rfl, rfl⟩ | exact (sz_move _ _ _).trans ⟨rfl, rfl⟩
theorem sz_mode (on : Bool) (g : G) (n : Int) : Sz (mode on g n) g := by
  unfold mode alternate
  repeat' split
  all_goals first | exact ⟨rfl, rfl⟩ | (simp only; split <;> exact ⟨rfl, rfl⟩)
theorem sz_modes (g : G) (r : Int) (ps : List Int) : Sz (g.modes r ps) g := by
  unfold modes
  split
  · exact Sz.fold (fun g a => sz_mode _ g a) ps g
  · exact .refl g
theorem sz_eraseLine (g : G) (p : Int) : Sz (g.eraseLine p) g := ⟨(eraseLine_rows g p).1, (eraseLine_rows g p).2.1⟩
theorem sz_erase (g : G) (p : Int) : Sz (g.erase p) g := by
  have h0 : Sz (if p = 3 then ({ g with past := [] } : G) else g) g := by split <;> exact ⟨rfl, rfl⟩
  unfold erase
  simp only
  split
  · exact h0
  · exact ((Sz.fold (fun g a => ⟨(eraseRow_same p g a).1, (eraseRow_same p g a).2.1⟩) _ _).trans (sz_eraseLine _ p)).trans h0
theorem sz_edit (g : G) (r : Int) (ps : List Int) (n : Int) : Sz (g.edit r ps n) g := by
  unfold edit
  simp only
  repeat' split
  all_goals first | exact ⟨rfl, rfl⟩ | exact sz_erase g _ | exact sz_eraseLine g _ | exact sz_up g _ | exact sz_down g _ | exact (sz_move _ _ _).trans ⟨rfl, rfl⟩
theorem sz_csi (g : G) (r : Int) (ps : List Int) : Sz (g.csi r ps) g := by
  unfold csi
  simp only
  repeat' split
  all_goals first | exact ⟨rfl, rfl⟩ | exact sz_edit g _ _ _ | exact Sz.fold (f := style) (fun g a => ⟨rfl, rfl⟩) ps g | exact (sz_move _ _ _).trans ⟨rfl, rfl⟩
theorem sz_act (g : G) (a : Act) : Sz (g.act a) g := by
  unfold act
  repeat' split
  all_goals first | exact .refl g | exact sz_print g _ | exact sz_control g _ | exact sz_esc g _ | exact sz_modes g _ _ | exact sz_csi g _ _
end G
end Go.Proofs.YtdbepelcgmnbbaaDoor.PG

namespace Go.Proofs.YtdbepelcgmnbbaaDoor
namespace PG
theorem fitLine_back {l : Line} {c c' : Nat} (hl : l.length = c) (h : c ≤ c') : G.fitLine c (G.fitLine c' l) = l := by
  have h1 : (G.fitLine c' l).length = c' := by simp [G.fitLine, line]; omega
  unfold G.fitLine at h1 ⊢
  rw [List.take_of_length_le (by omega : l.length ≤ c')] at h1 ⊢
  rw [h1, List.take_append_of_le_length (by omega), List.take_of_length_le (by omega)]
  have : c - c' = 0 := by omega
  rw [this]
  simp [line]

theorem fit_back {cells : List Line} {row r c r' c' : Nat} (hk : SheetOk r c cells) (hrow : row < r) (hr : r ≤ r') (hc : c ≤ c') : G.fit (G.fit cells row r' c') row r c = cells := by
  have l1 : G.lost row r' = 0 := by unfold G.lost; omega
  have l2 : G.lost row r = 0 := by unfold G.lost; omega
  have e1 : G.fit cells row r' c' = cells.map (G.fitLine c') ++ sheet (r' - r) c' := by
    unfold G.fit
    rw [l1, List.drop_zero, List.take_of_length_le (by have := hk.1; omega)]
    simp only [List.length_map]
    rw [hk.1]
  rw [e1]
  unfold G.fit
  rw [l2, List.drop_zero, List.take_append_of_le_length (by simp [hk.1]), List.take_of_length_le (by simp [hk.1])]
  simp only [List.length_map, List.map_map]
  rw [hk.1, Nat.sub_self]
  simp only [sheet, List.replicate_zero, List.append_nil]
  refine (List.map_congr_left (g := id) fun l hl => ?_).trans (List.map_id _)
  exact fitLine_back (hk.2 l hl).1 hc

theorem resize_back {g : G} (h : g.Inv) {r' c' : Nat} (hr : g.rows ≤ r') (hc : g.cols ≤ c') :
    ((g.resize r' c').resize g.rows g.cols).cells = g.cells ∧ ((g.resize r' c').resize g.rows g.cols).at_.row = g.at_.row ∧ ((g.resize r' c').resize g.rows g.cols).at_.col = g.at_.col ∧ ((g.resize r' c').resize g.rows g.cols).hidden = g.hidden ∧
    ((g.resize r' c').resize g.rows g.cols).rows = g.rows ∧ ((g.resize r' c').resize g.rows g.cols).cols = g.cols := by
  have h1 := h.row
  have h2 := h.col
  have l1 : G.lost g.at_.row r' = 0 := by unfold G.lost; omega
  have l2 : G.lost g.at_.row g.rows = 0 := by unfold G.lost; omega
  have a1 : min g.at_.row (r' - 1) = g.at_.row := by omega
  have a2 : min g.at_.col (c' - 1) = g.at_.col := by omega
  have a3 : min g.at_.row (g.rows - 1) = g.at_.row := by omega
  have a4 : min g.at_.col (g.cols - 1) = g.at_.col := by omega
  have hf := fit_back h.cells h1 hr hc
  cases ho : g.other with
  | none => refine ⟨?_, ?_, ?_, ?_, ?_, ?_⟩ <;> simp [G.resize, ho, G.clampCur, l1, l2, a1, a2, a3, a4, hf]
  | some o => refine ⟨?_, ?_, ?_, ?_, ?_, ?_⟩ <;> simp [G.resize, ho, G.clampCur, l1, l2, a1, a2, a3, a4, hf]
end PG
open Go Go.RowKit

theorem PT.write_size (t : PT) (bs : List UInt8) : PG.G.Sz (t.write bs).g t.g := PG.G.Sz.fold (fun g a => PG.G.sz_act g a) _ _

/-- A place of a screen's rows. -/
theorem RowsAt.place {w : World} {a : Option Addr} {n c : Nat} {L : List PG.Line} {ob : Option Nat} {rb : List Nat} (h : RowsAt w (.slice a n c) L ob rb) {R C : Nat} (hk : PG.SheetOk R C L) {i j : Nat} (hi : i < R) (hj : j < C) :
    ∃ bo oo b o k, a = some ⟨bo, oo, none⟩ ∧ n = R ∧ w.cell? ⟨bo, oo + i, none⟩ = some (.slice (some ⟨b, o, none⟩) C k) ∧
      w.cell? ⟨b, o + j * 4, none⟩ = some (.int .i32 ((L.getD i []).getD j PG.blank).rune) ∧ w.cell? ⟨b, o + j * 4 + 1, none⟩ = some (.int .i64 ((L.getD i []).getD j PG.blank).fg) ∧
      w.cell? ⟨b, o + j * 4 + 2, none⟩ = some (.int .i64 ((L.getD i []).getD j PG.blank).bg) ∧ w.cell? ⟨b, o + j * 4 + 3, none⟩ = some (.int .i64 ((L.getD i []).getD j PG.blank).style) := by
  have hil : i < L.length := by rw [hk.1]; exact hi
  have hLi : L[i]? = some (L.getD i []) := by rw [List.getD_eq_getElem?_getD, List.getElem?_eq_getElem hil]; rfl
  obtain ⟨l, hl⟩ : ∃ l, l = L.getD i [] := ⟨_, rfl⟩
  rw [← hl] at hLi ⊢
  have hll := (hk.2 l (List.mem_of_getElem? hLi)).1
  have hjl : j < l.length := by omega
  have hlj : l[j]? = some (l.getD j PG.blank) := by rw [List.getD_eq_getElem?_getD, List.getElem?_eq_getElem hjl]; rfl
  obtain ⟨bo, oo, co, b, o, k, e1, e2, e3, e4, e5, e6, e7⟩ := h.row hLi
  cases e1
  obtain ⟨z0, z1, z2, z3⟩ := flat_get l j _ hlj
  refine ⟨bo, oo, b, o, k, rfl, hk.1, by rw [← hll]; exact e4, e7.cells _ _ z0, ?_, ?_, ?_⟩
  · rw [Nat.add_assoc]; exact e7.cells _ _ z1
  · rw [Nat.add_assoc]; exact e7.cells _ _ z2
  · rw [Nat.add_assoc]; exact e7.cells _ _ z3

end Go.Proofs.YtdbepelcgmnbbaaDoor
