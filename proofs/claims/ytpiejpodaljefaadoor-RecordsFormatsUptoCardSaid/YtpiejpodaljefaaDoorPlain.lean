/- Records: the plain law: what Parse computes, by the rest of the text. -/
import Derived.Test.YtpiejpodaljefaaDoorBase
namespace Go.Proofs.YtpiejpodaljefaaDoor

/-- a field: text, column, quoted -/
abbrev Fld := L8 × Nat × Bool
/-- a record: line, fields -/
abbrev Rcd := Nat × List Fld
/-- a problem: line, column, code -/
abbrev Prb := Nat × Nat × Nat

/-- The rest is at the end of a line. -/
def endL : L8 → Bool
  | [] => true
  | [c] => c == 10 || c == 13
  | c :: e :: _ => c == 10 || (c == 13 && e == 10)
def skipL : L8 → L8
  | [] => []
  | c :: r => if c == 10 then r else skipL r
/-- A field that is not quoted: its text, the rest, whether it is well. -/
def plainL (d q : UInt8) : L8 → L8 × L8 × Bool
  | [] => ([], [], true)
  | c :: r => if endL (c :: r) || c == d then ([], c :: r, true) else if c == q then ([], c :: r, false) else (c :: (plainL d q r).1, (plainL d q r).2)
/-- A quoted field behind its mark: whether it ends, its text, the rest, the line, the column. -/
structure QS where
  ok : Bool
  txt : L8
  rest : L8
  line : Nat
  col : Nat
def quotL (q : UInt8) : L8 → Nat → Nat → L8 → QS
  | [], l, k, o => ⟨false, o, [], l, k⟩
  | [c], l, k, o => if c == q then ⟨true, o, [], l, k + 1⟩ else if c == 10 then ⟨false, o ++ [c], [], l + 1, 1⟩ else ⟨false, o ++ [c], [], l, k + 1⟩
  | c :: e :: r, l, k, o =>
    if c == q then (if e == q then quotL q r l (k + 2) (o ++ [q]) else ⟨true, o, e :: r, l, k + 1⟩)
    else if c == 10 then quotL q (e :: r) (l + 1) 1 (o ++ [c]) else quotL q (e :: r) l (k + 1) (o ++ [c])

/-- where a reader stands: the rest, the line, the column -/
structure St where
  rest : L8
  line : Nat
  col : Nat

def fieldL (d q : UInt8) (s : St) : (Fld ⊕ Prb) × St :=
  if s.rest.head? = some q then
    let z := quotL q s.rest.tail s.line (s.col + 1) []
    if z.ok = false then (.inr (s.line, s.col, 8), ⟨z.rest, z.line, z.col⟩)
    else if endL z.rest = true ∨ z.rest.head? = some d then (.inl (z.txt, s.col, true), ⟨z.rest, z.line, z.col⟩)
    else (.inr (z.line, z.col, 8), ⟨z.rest, z.line, z.col⟩)
  else
    let z := plainL d q s.rest
    if z.2.2 = true then (.inl (z.1, s.col, false), ⟨z.2.1, s.line, s.col + z.1.length⟩)
    else (.inr (s.line, s.col + z.1.length, 8), ⟨z.2.1, s.line, s.col + z.1.length⟩)

/-- n fields are still allowed. -/
def recL (d q : UInt8) : Nat → St → List Fld → (List Fld ⊕ Prb) × St
  | 0, s, _ => (.inr (s.line, s.col, 9), s)
  | n + 1, s, fs =>
    match fieldL d q s with
    | (.inr p, s') => (.inr p, s')
    | (.inl f, s') => if endL s'.rest = true then (.inl (fs ++ [f]), s') else recL d q n ⟨s'.rest.tail, s'.line, s'.col + 1⟩ (fs ++ [f])

def parL (d q : UInt8) : Nat → L8 → Nat → List Rcd → List Prb → List Rcd × List Prb
  | 0, _, _, R, P => (R, P)
  | n + 1, r, l, R, P =>
    if r = [] then (R, P)
    else if endL r = true ∨ r.head? = some 35 then parL d q n (skipL r) (l + 1) R P
    else if R.length = 400 then (R, P ++ [(l, 1, 2)])
    else match recL d q 12 ⟨r, l, 1⟩ [] with
      | (.inl fs, s') => parL d q n (skipL s'.rest) (s'.line + 1) (R ++ [(l, fs)]) P
      | (.inr p, s') => parL d q n (skipL s'.rest) (s'.line + 1) R (P ++ [p])

end Go.Proofs.YtpiejpodaljefaaDoor
