/- Plain data of the program: tables, grids, texts, and what is ok. No program in sight. -/
namespace Go.Proofs.YtfcogogpioeggaaDoor
structure TCol where
  k : Int
  n : Int
deriving DecidableEq, Inhabited
structure Brd where
  s : Int
  w : Int
deriving DecidableEq, Inhabited
structure TCell where
  t : ByteArray
  c : Int
  r : Int
  top : Brd
  right : Brd
  bot : Brd
  left : Brd
deriving DecidableEq, Inhabited
structure TRow where
  cs : List TCell
  wh : Bool
deriving DecidableEq, Inhabited
structure Tbl where
  cols : List TCol
  head : Int
  foot : Int
  rows : List TRow
  gap : Int
deriving DecidableEq, Inhabited
structure GCell where
  row : Int
  col : Int
  rows : Int
  cols : Int
  inn : Int
deriving DecidableEq, Inhabited
structure Grid where
  rows : Int
  cols : Int
  cells : List GCell
deriving DecidableEq, Inhabited

def inB (n lo hi : Int) : Bool := decide (lo ≤ n) && decide (n ≤ hi)
def seenB (b : Brd) : Bool := inB b.s 1 3
def brdOk (b : Brd) : Bool := if seenB b then inB b.w 1 3 else (b.s == 0 || b.s == 4) && b.w == 0
def colOk (x : TCol) : Bool := if x.k = 0 then x.n == 0 else if x.k = 1 then inB x.n 0 60 else if x.k = 2 then inB x.n 1 100 else false

/-- A text's words: it is cut at its blanks. -/
def cutL : List UInt8 → List UInt8 → List (List UInt8)
  | w, [] => [w]
  | w, c :: cs => if c = 32 then w :: cutL [] cs else cutL (w ++ [c]) cs
def lowB (c : UInt8) : Bool := decide (97 ≤ c) && decide (c ≤ 122)
def wordOk (w : List UInt8) : Bool := !w.isEmpty && w.all lowB
def txtOk (l : List UInt8) : Bool := l.isEmpty || ((cutL [] l).all wordOk && decide (l.length ≤ 30))
def txOk (s : ByteArray) : Bool := txtOk s.data.toList
def cellOk (c : TCell) : Bool := txOk c.t && (inB c.c 1 4 && (inB c.r 1 4 && (brdOk c.top && (brdOk c.right && (brdOk c.bot && brdOk c.left)))))
def tblOk (t : Tbl) : Bool :=
  inB t.rows.length 1 8 && (decide ((t.cols.length : Int) ≤ 8) && (inB t.gap 0 3 && (inB t.head 0 t.rows.length && (inB t.foot 0 (t.rows.length - t.head) &&
    (t.cols.all colOk && t.rows.all fun r => decide ((r.cs.length : Int) ≤ 5) && r.cs.all cellOk)))))
def saidOf (t : Tbl) (col : Int) : TCol := if 0 ≤ col ∧ col < t.cols.length then t.cols.getD col.toNat ⟨0, 0⟩ else ⟨0, 0⟩
def colSaid (t : Tbl) (col : Int) : TCol := if tblOk t = true then saidOf t col else ⟨0, 0⟩
end Go.Proofs.YtfcogogpioeggaaDoor
