/- What is read, answer by answer: plain. -/
import Derived.Test.YtmdcedbnlbcdjaaDoorMReplyPure
import Derived.Lib.Bytealg
namespace Go.My
/-- How bytes go on: no line more; none at all; a line, and what stands behind it. -/
inductive NL where
  | stop
  | bad
  | line (s rest : Str)
def nextLine (b : Str) : NL :=
  if Lib.indexByte b 10 < 0 then (if b.length < 512 then .stop else .bad)
  else if Lib.indexByte b 10 < 512 ∧ 0 < Lib.indexByte b 10 ∧ Lib.indexByte b 13 = Lib.indexByte b 10 - 1 then .line (b.take (Lib.indexByte b 10 - 1).toNat) (b.drop (Lib.indexByte b 10 + 1).toNat) else .bad
/-- What was read: the answer that is begun, how many bytes were gone through, what is told, how many bytes that is. -/
structure St where
  code : Int := 0
  xl : List ByteArray := []
  at_ : Nat := 0
  told : List Rep := []
  used : Nat := 0
def lineOk (st : St) (s : Str) : Bool :=
  decide (4 ≤ s.length) && (s[3]? == some 45 || s[3]? == some 32) && decide (st.xl.length < 100) &&
    (numOk (s.take 3) && decide (200 ≤ numVal (s.take 3)) && decide (numVal (s.take 3) ≤ 599) && (decide (st.xl.length = 0) || decide (numVal (s.take 3) = st.code)))
def lineF (st : St) (s : Str) : St :=
  let n := numVal (s.take 3)
  let xl := st.xl ++ [⟨(s.drop 4).toArray⟩]
  let at_ := st.at_ + (s.length + 2)
  if s[3]? = some 32 then { code := 0, xl := [], at_, told := st.told ++ [⟨n, xl, moreF n ⟨(s.drop 4).toArray⟩⟩], used := at_ }
  else { st with code := n, xl, at_ }
/-- All of it: what was read, and whether nothing was wrong. -/
def runL : Nat → Str → St → St × Bool
  | 0, _, st => (st, false)
  | k + 1, b, st => match nextLine b with
    | .stop => (st, true)
    | .bad => (st, false)
    | .line s r => if lineOk st s then runL k r (lineF st s) else (st, false)
end Go.My
