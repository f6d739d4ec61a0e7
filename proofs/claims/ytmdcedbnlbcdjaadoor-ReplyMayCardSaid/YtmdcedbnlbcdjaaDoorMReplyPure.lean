/- What mailcoach's package reply computes, as plain functions on lists of bytes, and that what is read is written so. No program in it. -/
import Derived.Test.YtmdcedbnlbcdjaaDoorMWords
import Derived.Lib.AtoiAll
import Derived.Lib.Split
import Derived.Lib.IndexMore
import Derived.Lib.Itoa
import Derived.Lib.ItoaNum
namespace Go.My

/-- Up to three digits, none of them a 0 ahead. -/
def numOk (l : Str) : Bool := match Lib.atoiAll l with
  | .ok v => decide (l.length ≤ 3) && (Lib.itoa v == l && decide (0 ≤ v))
  | _ => false
def numVal (l : Str) : Int := match Lib.atoiAll l with
  | .ok v => v
  | _ => 0

/-- The pieces of a text's first word, between points. -/
def pieces (s : ByteArray) : List ByteArray := Lib.splitB ⟨#[46]⟩ 0 (Lib.countB ⟨(Lib.cut s.data.toList [32]).1.toArray⟩ ⟨#[46]⟩) ⟨(Lib.cut s.data.toList [32]).1.toArray⟩
/-- What is enhanced, of three pieces. -/
def more3 (k : Int) (a b c : ByteArray) : Int × Int × Int :=
  if numOk a.data.toList = true ∧ numOk b.data.toList = true ∧ numOk c.data.toList = true ∧ numVal a.data.toList = k then (numVal a.data.toList, numVal b.data.toList, numVal c.data.toList) else (0, 0, 0)
def moreF (code : Int) (s : ByteArray) : Int × Int × Int :=
  match pieces s with
  | [a, b, c] => if code / 100 = 3 then (0, 0, 0) else more3 (code / 100) a b c
  | _ => (0, 0, 0)

structure Rep where
  code : Int
  lines : List ByteArray
  more : Int × Int × Int

def fits (s : ByteArray) : Bool := s.size ≤ 506 && s.data.toList.all (fun b => !(b == 13) && !(b == 10))
def mayF (x : Rep) : Bool :=
  (200 ≤ x.code && x.code ≤ 599) && (1 ≤ x.lines.length && x.lines.length ≤ 100) && x.lines.all fits && (x.more == moreF x.code (x.lines.getLast?.getD ⟨#[]⟩))
end Go.My
