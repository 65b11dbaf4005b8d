/- The program's grid as plain Lean: what each function of package grid computes, with no program and no memory in sight. -/
namespace Go.Proofs.YtdbepelcgmnbbaaDoor.PG

/-- A cell: rune, colours, style. -/
structure Cell where
  rune : Int
  fg : Int
  bg : Int
  style : Int
deriving DecidableEq, Repr, Inhabited

def zeroCell : Cell := ⟨0, 0, 0, 0⟩
def blank : Cell := ⟨32, 0, 0, 0⟩

structure Cur where
  row : Nat
  col : Nat
  due : Bool
  style : Cell
deriving DecidableEq, Repr, Inhabited

def zeroCur : Cur := ⟨0, 0, false, zeroCell⟩

abbrev Line := List Cell

structure G where
  rows : Nat
  cols : Nat
  cells : List Line
  at_ : Cur
  saved : Cur
  top : Nat
  bottom : Nat
  wrap : Bool
  insert : Bool
  hidden : Bool
  tabs : List Bool
  other : Option (List Line)
  away : Cur
  past : List Line
deriving DecidableEq, Repr, Inhabited

def line (n : Nat) : Line := List.replicate n blank
def sheet (rows cols : Nat) : List Line := List.replicate rows (line cols)
def stops (n : Nat) : List Bool := (List.range n).map fun i => decide (0 < i) && decide (i % 8 = 0)

def fresh (rows cols : Nat) (past : List Line) : G :=
  { rows, cols, cells := sheet rows cols, at_ := zeroCur, saved := zeroCur, top := 0, bottom := rows - 1, wrap := true, insert := false,
    hidden := false, tabs := stops cols, other := none, away := zeroCur, past }

def new (rows cols : Nat) : G := fresh rows cols []

/-- keep a line of the past: at most 200. -/
def keep1 (past : List Line) (l : Line) : List Line := (past ++ [l]).drop ((past ++ [l]).length - 200)
def keepAll (past : List Line) (ls : List Line) : List Line := ls.foldl keep1 past

/-- rows out of a list, from 'row' to 'bottom': n go, blank ones come at the end. -/
def takeRows (cells : List Line) (cols row bottom n : Nat) : List Line :=
  cells.take row ++ ((cells.take (bottom + 1)).drop row).drop n ++ sheet (min n (bottom + 1 - row)) cols ++ cells.drop (bottom + 1)

def putRows (cells : List Line) (cols row bottom n : Nat) : List Line :=
  cells.take row ++ sheet (min n (bottom + 1 - row)) cols ++ ((cells.take (bottom + 1)).drop row).take (bottom + 1 - row - n) ++ cells.drop (bottom + 1)

namespace G

def move (g : G) (row col : Int) : G :=
  { g with at_ := { g.at_ with row := (min (max row 0) ((g.rows : Int) - 1)).toNat, col := (min (max col 0) ((g.cols : Int) - 1)).toNat, due := false } }

def take (g : G) (row n : Nat) : G := { g with cells := takeRows g.cells g.cols row g.bottom n }
def put (g : G) (row n : Nat) : G := { g with cells := putRows g.cells g.cols row g.bottom n }

def up (g : G) (n : Nat) : G :=
  let n := min n (g.bottom - g.top + 1)
  let g := if g.top = 0 ∧ g.other = none then { g with past := keepAll g.past (g.cells.take n) } else g
  g.take g.top n

def down (g : G) (n : Nat) : G := g.put g.top n

def index (g : G) : G :=
  let g := { g with at_ := { g.at_ with due := false } }
  if g.at_.row = g.bottom then g.up 1
  else if g.at_.row < g.rows - 1 then { g with at_ := { g.at_ with row := g.at_.row + 1 } }
  else g

def cell (g : G) (r : Int) : Cell := { g.at_.style with rune := r }

/-- the cells of a row, from a column on, moved to the right by one; the last is lost. -/
def shiftRight (l : Line) (col : Nat) : Line := l.take (col + 1) ++ (l.drop col).take (l.length - (col + 1))

def wrapped (g : G) : G :=
  if g.at_.due && g.wrap then { g with at_ := { g.at_ with col := 0 } }.index else g

def inserted (g : G) : G :=
  if g.insert then { g with cells := g.cells.set g.at_.row (shiftRight (g.cells.getD g.at_.row []) g.at_.col) } else g

def setCell (g : G) (row col : Nat) (c : Cell) : G := { g with cells := g.cells.set row ((g.cells.getD row []).set col c) }

def print (g : G) (r : Int) : G :=
  let g := g.wrapped.inserted
  let g := g.setCell g.at_.row g.at_.col (g.cell r)
  if g.at_.col = g.cols - 1 then { g with at_ := { g.at_ with due := g.wrap } }
  else { g with at_ := { g.at_ with col := g.at_.col + 1 } }

/-- the next tab stop from a column on. -/
def nextStop (tabs : List Bool) (cols : Nat) : Nat → Nat → Nat
  | 0, col => col
  | k + 1, col => if col < cols - 1 ∧ tabs.getD col false = false then nextStop tabs cols k (col + 1) else col

def control (g : G) (r : Int) : G :=
  if r = 8 then g.move g.at_.row ((g.at_.col : Int) - 1)
  else if r = 9 then g.move g.at_.row (nextStop g.tabs g.cols g.cols (g.at_.col + 1))
  else if r = 10 ∨ r = 11 ∨ r = 12 then g.index
  else if r = 13 then g.move g.at_.row 0
  else g

def esc (g : G) (r : Int) : G :=
  if r = 68 then g.index
  else if r = 69 then { g with at_ := { g.at_ with col := 0 } }.index
  else if r = 77 then
    let g := { g with at_ := { g.at_ with due := false } }
    if g.at_.row = g.top then g.down 1 else g.move ((g.at_.row : Int) - 1) g.at_.col
  else if r = 55 then { g with saved := g.at_ }
  else if r = 56 then
    let h := { g with at_ := g.saved }.move g.saved.row g.saved.col
    { h with at_ := { h.at_ with due := g.saved.due } }
  else if r = 99 then fresh g.rows g.cols g.past
  else if r = 72 then { g with tabs := g.tabs.set g.at_.col true }
  else g

def alternate (g : G) (on : Bool) : G :=
  match on, g.other with
  | true, none => { g with other := some g.cells, away := g.at_, cells := sheet g.rows g.cols }
  | false, some o => { g with cells := o, at_ := g.away, other := none, away := zeroCur }
  | _, _ => g

def mode (on : Bool) (g : G) (n : Int) : G :=
  if n = 7 then { g with wrap := on, at_ := { g.at_ with due := g.at_.due && on } }
  else if n = 25 then { g with hidden := !on }
  else if n = 1049 then g.alternate on
  else g

def modes (g : G) (r : Int) (params : List Int) : G :=
  if r = 104 ∨ r = 108 then params.foldl (mode (decide (r = 104))) g else g

/-- bits of a style. -/
def orBits (a b : Int) : Int := ((a.toNat ||| b.toNat : Nat) : Int)
def andNotBits (a b : Int) : Int := ((a.toNat &&& (7 - b.toNat) : Nat) : Int)

def styled (s : Cell) (k : Int) : Cell :=
  if k = 0 then zeroCell
  else if k = 1 then { s with style := orBits s.style 1 }
  else if k = 4 then { s with style := orBits s.style 2 }
  else if k = 7 then { s with style := orBits s.style 4 }
  else if k = 22 then { s with style := andNotBits s.style 1 }
  else if k = 24 then { s with style := andNotBits s.style 2 }
  else if k = 27 then { s with style := andNotBits s.style 4 }
  else if 30 ≤ k ∧ k ≤ 37 then { s with fg := k - 29 }
  else if k = 39 then { s with fg := 0 }
  else if 40 ≤ k ∧ k ≤ 47 then { s with bg := k - 39 }
  else if k = 49 then { s with bg := 0 }
  else s

def style (g : G) (k : Int) : G := { g with at_ := { g.at_ with style := styled g.at_.style k } }

/-- the i-th parameter; 'otherwise' if there is none, or it is 0. -/
def param (ps : List Int) (i : Nat) (otherwise : Int) : Int := if ps.getD i 0 = 0 then otherwise else ps.getD i 0

def wipeLine (l : Line) (fr to : Nat) : Line := l.take fr ++ line (to - fr) ++ l.drop to
def wipe (g : G) (row fr to : Nat) : G := { g with cells := g.cells.set row (wipeLine (g.cells.getD row []) fr to) }

def eraseLine (g : G) (p : Int) : G :=
  if p = 0 then g.wipe g.at_.row g.at_.col g.cols
  else if p = 1 then g.wipe g.at_.row 0 (g.at_.col + 1)
  else if p = 2 then g.wipe g.at_.row 0 g.cols
  else g

def eraseRow (p : Int) (g : G) (row : Nat) : G :=
  if p = 2 ∨ (p = 0 ∧ g.at_.row < row) ∨ (p = 1 ∧ row < g.at_.row) then g.wipe row 0 g.cols else g

def erase (g : G) (p : Int) : G :=
  let g := if p = 3 then { g with past := [] } else g
  if p < 0 ∨ 2 < p then g else (List.range g.rows).foldl (eraseRow p) (g.eraseLine p)

def cutLine (what : Int) (l : Line) (col n : Nat) : Line :=
  let t := l.drop col
  let n := min n t.length
  l.take col ++ (if what = 64 then line n ++ t.take (t.length - n) else if what = 80 then t.drop n ++ line n else line n ++ t.drop n)

def cut (g : G) (what : Int) (n : Nat) : G := { g with cells := g.cells.set g.at_.row (cutLine what (g.cells.getD g.at_.row []) g.at_.col n) }

def edit (g : G) (r : Int) (ps : List Int) (n : Int) : G :=
  let p := param ps 0 0
  if r = 74 then g.erase p
  else if r = 75 then g.eraseLine p
  else if r = 76 ∨ r = 77 then
    if g.at_.row < g.top ∨ g.bottom < g.at_.row then g
    else (if r = 76 then g.put g.at_.row n.toNat else g.take g.at_.row n.toNat).move g.at_.row 0
  else if r = 64 ∨ r = 80 ∨ r = 88 then g.cut r n.toNat
  else if r = 83 then g.up n.toNat
  else if r = 84 then g.down n.toNat
  else if r = 114 then
    let top := param ps 0 1 - 1
    let bottom := min (param ps 1 g.rows - 1) ((g.rows : Int) - 1)
    if top < bottom then { g with top := top.toNat, bottom := bottom.toNat }.move 0 0 else g
  else if r = 103 then
    let g := if p = 0 then { g with tabs := g.tabs.set g.at_.col false } else g
    if p = 3 then { g with tabs := List.replicate g.cols false } else g
  else g

def csi (g : G) (r : Int) (ps : List Int) : G :=
  let n := param ps 0 1
  let row : Int := g.at_.row
  let col : Int := g.at_.col
  if r = 65 ∨ r = 70 then
    let least : Int := if g.top ≤ g.at_.row then g.top else 0
    g.move (max (row - n) least) (if r = 70 then 0 else col)
  else if r = 66 ∨ r = 69 then
    let most : Int := if g.at_.row ≤ g.bottom then g.bottom else (g.rows : Int) - 1
    g.move (min (row + n) most) (if r = 69 then 0 else col)
  else if r = 67 then g.move row (col + n)
  else if r = 68 then g.move row (col - n)
  else if r = 71 then g.move row (n - 1)
  else if r = 100 then g.move (n - 1) col
  else if r = 72 ∨ r = 102 then g.move (n - 1) (param ps 1 1 - 1)
  else if r = 109 then ps.foldl style g
  else if r = 104 ∨ r = 108 then (if ps.contains 4 then { g with insert := decide (r = 104) } else g)
  else g.edit r ps n

/-- an act: kind, rune, mark, params. -/
structure Act where
  kind : Int
  rune : Int
  mark : Bool
  params : List Int
deriving DecidableEq, Repr, Inhabited

def act (g : G) (a : Act) : G :=
  if a.kind = 1 then g.print a.rune
  else if a.kind = 2 then g.control a.rune
  else if a.kind = 3 then g.esc a.rune
  else if a.kind = 4 then (if a.mark then g.modes a.rune a.params else g.csi a.rune a.params)
  else g

/-- fit cells into a size. -/
def fitLine (cols : Nat) (l : Line) : Line := l.take cols ++ line (cols - l.length)
def lost (row rows : Nat) : Nat := row + 1 - rows
def fit (cells : List Line) (row rows cols : Nat) : List Line :=
  let out := ((cells.drop (lost row rows)).take rows).map (fitLine cols)
  out ++ sheet (rows - out.length) cols

def clampCur (c : Cur) (rows cols : Nat) : Cur := { c with row := min c.row (rows - 1), col := min c.col (cols - 1), due := false }

def resizeTabs (tabs : List Bool) (cols : Nat) : List Bool :=
  (tabs ++ (List.range (cols - tabs.length)).map fun i => decide ((tabs.length + i) % 8 = 0)).take cols

def resize (g : G) (rows cols : Nat) : G :=
  let tabs := resizeTabs g.tabs cols
  match g.other with
  | none =>
    let l := lost g.at_.row rows
    { g with rows, cols, cells := fit g.cells g.at_.row rows cols, past := keepAll g.past ((g.cells.take l).map (fitLine cols)),
             at_ := clampCur { g.at_ with row := g.at_.row - l } rows cols, away := clampCur g.away rows cols, top := 0, bottom := rows - 1, tabs }
  | some o =>
    let l := lost g.away.row rows
    { g with rows, cols, cells := fit g.cells g.at_.row rows cols, other := some (fit o g.away.row rows cols), past := keepAll g.past ((o.take l).map (fitLine cols)),
             at_ := clampCur { g.at_ with row := g.at_.row - lost g.at_.row rows } rows cols, away := clampCur { g.away with row := g.away.row - l } rows cols, top := 0, bottom := rows - 1, tabs }

end G
end Go.Proofs.YtdbepelcgmnbbaaDoor.PG
