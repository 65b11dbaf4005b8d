/- The program's terminal parser as plain Lean. -/
import Derived.Test.YtdbepelcgmnbbaaDoorPure
import Derived.Lib.DecodeN
import Derived.Laws.RangeAny
namespace Go.Proofs.YtdbepelcgmnbbaaDoor.PV
abbrev A := PG.G.Act

structure P where
  state : Int
  mark : Bool
  odd : Bool
  begun : Bool
  over : Bool
  params : List Int
deriving DecidableEq, Repr, Inhabited

def fresh : P := ⟨0, false, false, false, false, []⟩
def noAct : A := ⟨0, 0, false, []⟩
def ctl (r : Int) : A := ⟨2, r, false, []⟩

def plain (r : Int) : A × Bool :=
  if 7 ≤ r ∧ r ≤ 13 then (ctl r, true) else if r < 32 ∨ r = 127 then (noAct, false) else (⟨1, r, false, []⟩, true)

def escaped (p : P) (r : Int) : P × A × Bool :=
  if r = 91 then ({ state := 3, mark := false, odd := false, begun := false, over := false, params := [0] }, noAct, false)
  else if r = 93 ∨ r = 80 ∨ r = 88 ∨ r = 94 ∨ r = 95 then ({ p with state := 4 }, noAct, false)
  else if r = 40 ∨ r = 41 ∨ r = 42 ∨ r = 43 ∨ r = 35 then ({ p with state := 2 }, noAct, false)
  else if 7 ≤ r ∧ r ≤ 13 then ({ p with state := 1 }, ctl r, true)
  else if 48 ≤ r ∧ r ≤ 126 then ({ p with state := 0 }, ⟨3, r, false, []⟩, true)
  else ({ p with state := 0 }, noAct, false)

def last (l : List Int) : Int := l.getD (l.length - 1) 0
def digit (p : P) (r : Int) : P := { p with begun := true, params := if p.over then p.params else p.params.set (p.params.length - 1) (min (10 * last p.params + (r - 48)) 9999) }
def semi (p : P) : P :=
  let over := p.over || decide (p.params.length = 16)
  { p with begun := true, over := over, params := if over then p.params else p.params ++ [0] }

def csi (p : P) (r : Int) : P × A × Bool :=
  if 7 ≤ r ∧ r ≤ 13 then (p, ctl r, true)
  else if r = 24 ∨ r = 26 ∨ 127 < r then ({ p with state := 0 }, noAct, false)
  else if 48 ≤ r ∧ r ≤ 57 then (digit p r, noAct, false)
  else if r = 59 then (semi p, noAct, false)
  else if r = 63 ∧ p.begun = false then ({ p with begun := true, mark := true }, noAct, false)
  else if 32 ≤ r ∧ r ≤ 63 then ({ p with begun := true, odd := true }, noAct, false)
  else if 64 ≤ r ∧ r ≤ 126 then (if p.odd then ({ p with state := 0 }, noAct, false) else ({ p with state := 0 }, ⟨4, r, p.mark, p.params⟩, true))
  else (p, noAct, false)

def rune (p : P) (r : Int) : P × A × Bool :=
  if r = 27 then (if p.state = 4 then ({ p with state := 5 }, noAct, false) else ({ p with state := 1 }, noAct, false))
  else if p.state = 1 then escaped p r
  else if p.state = 2 then ({ p with state := 0 }, noAct, false)
  else if p.state = 3 then csi p r
  else if p.state = 4 then (if r = 7 ∨ r = 24 ∨ r = 26 then ({ p with state := 0 }, noAct, false) else (p, noAct, false))
  else if p.state = 5 then (if r = 92 then ({ p with state := 0 }, noAct, false) else escaped p r)
  else (p, plain r)

/-- Runes one by one: the parser behind them, and the acts. -/
def step (s : P × List A) (r : Int) : P × List A :=
  let x := rune s.1 r
  (x.1, if x.2.2 then s.2 ++ [x.2.1] else s.2)
def feed (p : P) (rs : List Int) : P × List A := rs.foldl step (p, [])

structure P.Inv (p : P) : Prop where
  some_ : p.state = 3 → 0 < p.params.length
  most : p.params.length ≤ 16
  range : ∀ x ∈ p.params, 0 ≤ x ∧ x ≤ 9999

/-- What an act of the parser may be. -/
def ActOk (a : A) : Prop := (a.kind = 1 → 32 ≤ a.rune ∧ a.rune ≠ 127) ∧ a.params.length ≤ 16 ∧ ∀ x ∈ a.params, 0 ≤ x ∧ x ≤ 9999
theorem noAct_ok : ActOk noAct := ⟨fun h => by simp [noAct] at h, by simp [noAct], fun x h => by simp [noAct] at h⟩
theorem ctl_ok (r : Int) : ActOk (ctl r) := ⟨fun h => by simp [ctl] at h, by simp [ctl], fun x h => by simp [ctl] at h⟩

theorem fresh_inv : fresh.Inv := ⟨fun h => by simp [fresh] at h, by simp [fresh], fun x h => by simp [fresh] at h⟩
theorem P.Inv.same {p q : P} (h : p.Inv) (e : q.params = p.params) (hs : q.state = 3 → p.state = 3) : q.Inv := ⟨fun h3 => e ▸ h.some_ (hs h3), e ▸ h.most, e ▸ h.range⟩
theorem P.Inv.withState {p : P} (h : p.Inv) (s : Int) (hs : s ≠ 3) : P.Inv { p with state := s } := h.same rfl (fun e => absurd e hs)

theorem escaped_inv {p : P} (h : p.Inv) (r : Int) : (escaped p r).1.Inv := by
  unfold escaped
  split; exact ⟨fun _ => by simp, by simp, fun x hx => by simp at hx; omega⟩
  split; exact h.withState 4 (by omega)
  split; exact h.withState 2 (by omega)
  split; exact h.withState 1 (by omega)
  split; exact h.withState 0 (by omega)
  exact h.withState 0 (by omega)
theorem last_mem {l : List Int} (h : 0 < l.length) : last l ∈ l := by
  unfold last
  rw [List.getD_eq_getElem?_getD, List.getElem?_eq_getElem (by omega)]
  exact List.getElem_mem _
theorem digit_inv {p : P} (h : p.Inv) (h3 : 0 < p.params.length) {r : Int} (hr : 48 ≤ r ∧ r ≤ 57) : (digit p r).Inv := by
  have hl := h.range _ (last_mem h3)
  unfold digit
  by_cases ho : p.over = true
  · rw [ho]; exact ⟨fun _ => h3, h.most, h.range⟩
  · simp only [if_neg ho]
    refine ⟨fun _ => by simpa using h3, by simpa using h.most, fun x hx => ?_⟩
    rcases List.mem_or_eq_of_mem_set hx with h' | h'
    · exact h.range x h'
    · rw [h']; omega
theorem semi_inv {p : P} (h : p.Inv) (h3 : 0 < p.params.length) : (semi p).Inv := by
  unfold semi
  simp only
  by_cases ho : (p.over || decide (p.params.length = 16)) = true
  · simp only [ho, if_true]; exact ⟨fun _ => h3, h.most, h.range⟩
  · simp only [if_neg ho]
    have := h.most
    have : p.params.length ≠ 16 := by
      intro e; simp [e] at ho
    refine ⟨fun _ => by simp, by simp; omega, fun x hx => ?_⟩
    rcases List.mem_append.1 hx with h' | h'
    · exact h.range x h'
    · simp at h'; omega
theorem csi_inv {p : P} (h : p.Inv) (h3 : p.state = 3) (r : Int) : (csi p r).1.Inv := by
  unfold csi
  split; exact h
  split; exact h.withState 0 (by omega)
  split
  · rename_i hr; exact digit_inv h (h.some_ h3) hr
  split; exact semi_inv h (h.some_ h3)
  split; exact h.same rfl (fun _ => h3)
  split; exact h.same rfl (fun _ => h3)
  split
  · split
    · exact h.withState 0 (by omega)
    · exact h.withState 0 (by omega)
  exact h
theorem rune_inv {p : P} (h : p.Inv) (r : Int) : (rune p r).1.Inv := by
  unfold rune
  split
  · split
    · exact h.withState 5 (by omega)
    · exact h.withState 1 (by omega)
  split; exact escaped_inv h r
  split; exact h.withState 0 (by omega)
  split
  · rename_i h3; exact csi_inv h h3 r
  split
  · split
    · exact h.withState 0 (by omega)
    · exact h
  split
  · split
    · exact h.withState 0 (by omega)
    · exact escaped_inv h r
  exact h

theorem escaped_ok (p : P) (r : Int) : ActOk (escaped p r).2.1 := by
  unfold escaped
  split; exact noAct_ok
  split; exact noAct_ok
  split; exact noAct_ok
  split; exact ctl_ok r
  split; exact ⟨fun h => by simp at h, by simp, fun x h => by simp at h⟩
  exact noAct_ok
theorem csi_ok {p : P} (h : p.Inv) (r : Int) : ActOk (csi p r).2.1 := by
  unfold csi
  split; exact ctl_ok r
  split; exact noAct_ok
  split; exact noAct_ok
  split; exact noAct_ok
  split; exact noAct_ok
  split; exact noAct_ok
  split
  · split
    · exact noAct_ok
    · exact ⟨fun h => by simp at h, h.most, h.range⟩
  exact noAct_ok
theorem plain_ok (r : Int) : ActOk (plain r).1 := by
  unfold plain
  split; exact ctl_ok r
  split
  · exact noAct_ok
  · rename_i h; exact ⟨fun _ => by show 32 ≤ r ∧ r ≠ 127; omega, by simp, fun x h => by simp at h⟩
theorem rune_ok {p : P} (h : p.Inv) (r : Int) : ActOk (rune p r).2.1 := by
  unfold rune
  split
  · split <;> exact noAct_ok
  split; exact escaped_ok p r
  split; exact noAct_ok
  split; exact csi_ok h r
  split
  · split <;> exact noAct_ok
  split
  · split
    · exact noAct_ok
    · exact escaped_ok p r
  exact plain_ok r
/-- The rune of an act is one that came in, or none. -/
theorem escaped_rune (p : P) (r : Int) : (escaped p r).2.1.rune = r ∨ (escaped p r).2.1.rune = 0 := by
  unfold escaped
  split; exact .inr rfl
  split; exact .inr rfl
  split; exact .inr rfl
  split; exact .inl rfl
  split; exact .inl rfl
  exact .inr rfl
theorem csi_rune (p : P) (r : Int) : (csi p r).2.1.rune = r ∨ (csi p r).2.1.rune = 0 := by
  unfold csi
  split; exact .inl rfl
  split; exact .inr rfl
  split; exact .inr rfl
  split; exact .inr rfl
  split; exact .inr rfl
  split; exact .inr rfl
  split
  · split
    · exact .inr rfl
    · exact .inl rfl
  exact .inr rfl
theorem plain_rune (r : Int) : (plain r).1.rune = r ∨ (plain r).1.rune = 0 := by
  unfold plain
  split; exact .inl rfl
  split; exact .inr rfl
  exact .inl rfl
theorem rune_rune (p : P) (r : Int) : (rune p r).2.1.rune = r ∨ (rune p r).2.1.rune = 0 := by
  unfold rune
  split
  · split <;> exact .inr rfl
  split; exact escaped_rune p r
  split; exact .inr rfl
  split; exact csi_rune p r
  split
  · split <;> exact .inr rfl
  split
  · split
    · exact .inr rfl
    · exact escaped_rune p r
  exact plain_rune r

theorem feed_inv (rs : List Int) {p : P} (h : p.Inv) : (feed p rs).1.Inv := by
  suffices H : ∀ (rs : List Int) (s : P × List A), s.1.Inv → (rs.foldl step s).1.Inv from H rs _ h
  intro rs
  induction rs with
  | nil => intro s h; exact h
  | cons r rs ih => intro s h; exact ih _ (rune_inv h r)
theorem feed_ok (rs : List Int) {p : P} (h : p.Inv) (hr : ∀ r ∈ rs, r ≤ 2147483647) : ∀ a ∈ (feed p rs).2, ActOk a ∧ a.rune ≤ 2147483647 := by
  suffices H : ∀ (rs : List Int) (s : P × List A), s.1.Inv → (∀ r ∈ rs, r ≤ 2147483647) → (∀ a ∈ s.2, ActOk a ∧ a.rune ≤ 2147483647) → ∀ a ∈ (rs.foldl step s).2, ActOk a ∧ a.rune ≤ 2147483647 from H rs _ h hr (fun a ha => by simp at ha)
  intro rs
  induction rs with
  | nil => intro s _ _ h; exact h
  | cons r rs ih =>
    intro s hi hr ha
    refine ih _ (rune_inv hi r) (fun x hx => hr x (by simp [hx])) (fun a h => ?_)
    unfold step at h
    simp only at h
    split at h
    · rcases List.mem_append.1 h with h' | h'
      · exact ha a h'
      · simp at h'
        subst h'
        refine ⟨rune_ok hi r, ?_⟩
        rcases rune_rune s.1 r with e | e
        · rw [e]; exact hr r (by simp)
        · rw [e]; omega
    · exact ha a h
theorem feed_append (p : P) (a b : List Int) : (feed p (a ++ b)).1 = (feed (feed p a).1 b).1 ∧ (feed p (a ++ b)).2 = (feed p a).2 ++ (feed (feed p a).1 b).2 := by
  have key : ∀ (b : List Int) (q : P) (l : List A), b.foldl step (q, l) = ((feed q b).1, l ++ (feed q b).2) := by
    intro b
    induction b with
    | nil => intro q l; simp [feed]
    | cons r b ih =>
      intro q l
      rw [List.foldl_cons, feed, List.foldl_cons]
      have e1 : step (q, l) r = ((rune q r).1, l ++ (if (rune q r).2.2 then [(rune q r).2.1] else [])) := by unfold step; simp only; split <;> simp
      have e2 : step (q, []) r = ((rune q r).1, (if (rune q r).2.2 then [(rune q r).2.1] else [])) := by unfold step; simp only; split <;> simp
      rw [e1, e2, ih, ih, List.append_assoc]
  unfold feed
  rw [List.foldl_append, show a.foldl step (p, []) = ((feed p a).1, (feed p a).2) from rfl, key]
  exact ⟨rfl, rfl⟩

/-! Bytes into runes. -/
/-- Is the first rune whole (or wrong already)? -/
def full (l : List UInt8) : Bool :=
  match l with
  | [] => false
  | b :: r =>
    let x := Lib.firstT b.toNat
    if x % 8 ≤ r.length + 1 then true
    else match r with
      | [] => false
      | c :: r => if c.toNat < Lib.accLo (x / 16) ∨ Lib.accHi (x / 16) < c.toNat then true
        else match r with
          | [] => false
          | d :: _ => decide (d.toNat < 128) || decide (191 < d.toNat)
def start (b : UInt8) : Bool := decide (b.toNat / 64 ≠ 2)
/-- How many of the bytes are whole runes: the search from k on. -/
def wholeFrom (all : List UInt8) : Nat → Nat → Nat
  | 0, _ => all.length
  | f + 1, k => if k < all.length then (if start (all.getD k 0) && !full (all.drop k) then k else wholeFrom all f (k + 1)) else all.length
def whole (all : List UInt8) : Nat := wholeFrom all 4 (all.length - 3)

/-- The runes of a text, from a place on. -/
def runesFrom (s : ByteArray) : Nat → Nat → List Int
  | 0, _ => []
  | f + 1, pos => if pos < s.size then ((Utf8.decode s pos).1 : Int) :: runesFrom s f (pos + (Utf8.decode s pos).2) else []
def runes (s : ByteArray) : List Int := runesFrom s s.size 0

theorem wholeFrom_le (all : List UInt8) : ∀ f k, wholeFrom all f k ≤ all.length := by
  intro f
  induction f with
  | zero => intro k; exact Nat.le_refl _
  | succ f ih =>
    intro k
    unfold wholeFrom
    split
    · split
      · omega
      · exact ih _
    · exact Nat.le_refl _
theorem wholeFrom_ge (all : List UInt8) : ∀ f k, k ≤ all.length → k ≤ wholeFrom all f k := by
  intro f
  induction f with
  | zero => intro k h; exact h
  | succ f ih =>
    intro k h
    unfold wholeFrom
    split
    · split
      · exact Nat.le_refl _
      · have := ih (k + 1) (by omega); omega
    · exact h
theorem whole_le (all : List UInt8) : whole all ≤ all.length := wholeFrom_le _ _ _
theorem whole_held (all : List UInt8) : (all.drop (whole all)).length ≤ 3 := by
  have := wholeFrom_ge all 4 (all.length - 3) (by omega)
  unfold whole
  rw [List.length_drop]; omega

theorem length_runesFrom (s : ByteArray) : ∀ f pos, (runesFrom s f pos).length ≤ f := by
  intro f
  induction f with
  | zero => intro pos; simp [runesFrom]
  | succ f ih =>
    intro pos
    unfold runesFrom
    split
    · simp; exact ih _
    · simp
theorem runesFrom_le (s : ByteArray) : ∀ f pos, ∀ r ∈ runesFrom s f pos, 0 ≤ r ∧ r ≤ 2147483647 := by
  intro f
  induction f with
  | zero => intro pos r h; simp [runesFrom] at h
  | succ f ih =>
    intro pos r h
    unfold runesFrom at h
    split at h
    · rcases List.mem_cons.1 h with h' | h'
      · have := decode_le s pos
        rw [h']; omega
      · exact ih _ r h'
    · simp at h

end Go.Proofs.YtdbepelcgmnbbaaDoor.PV
