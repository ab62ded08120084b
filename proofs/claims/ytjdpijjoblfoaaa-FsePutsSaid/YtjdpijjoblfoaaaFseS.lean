/- The table of a share: plain definitions; symbols written as a state that moves. -/
import Derived.Test.YtjdpijjoblfoaaaPutS
import Derived.Test.YtjdpijjoblfoaaaTakeS
import Derived.Test.YtjdpijjoblfoaaaBack
import Derived.Test.YtjdpijjoblfoaaaOwn
namespace Go.Proofs.Ytjdpijjoblfoaaa

/-- the next place -/
def stepS (S p : Nat) : Nat := (p + S / 2 + S / 8 + 3) % S
/-- a symbol laid at n places, one behind the other -/
def fillS (S : Nat) (s : Int) (p : List Int × Nat) : Nat → List Int × Nat
  | 0 => p
  | n + 1 => ((fillS S s p n).1.set (fillS S s p n).2 s, stepS S (fillS S s p n).2)
/-- the first k symbols laid -/
def spreadS (S : Nat) (share : List Int) : Nat → List Int × Nat
  | 0 => (List.replicate S 0, 0)
  | k + 1 => fillS S k (spreadS S share k) (share.getD k 0).toNat
/-- the symbols of the places -/
def symP (S : Nat) (share : List Int) : List Int := (spreadS S share share.length).1
/-- the places of a symbol among the first k -/
def posP (P : List Int) (s : Int) : Nat → List Int
  | 0 => []
  | k + 1 => if P.getD k 0 = s then posP P s k ++ [(k : Int)] else posP P s k
/-- a place's number -/
def xP (share P : List Int) (p : Nat) : Int := share.getD (P.getD p 0).toNat 0 + ((posP P (P.getD p 0) p).length : Int)
/-- how many bits go, till x is below two f -/
def shrN : Nat → Int → Int → Nat
  | 0, _, _ => 0
  | n + 1, x, f => if 2 * f ≤ x then shrN n (x / 2) f + 1 else 0
/-- how many bits come, till x is S or more -/
def shlN : Nat → Int → Int → Nat
  | 0, _, _ => 0
  | n + 1, x, S => if x < S then shlN n (x * 2) S + 1 else 0

/-- may a share be? -/
def ShMay (share : List Int) (log : Int) : Prop := 5 ≤ log ∧ log ≤ 9 ∧ 1 ≤ share.length ∧ share.length ≤ 64 ∧ share.getD (share.length - 1) 0 ≠ 0 ∧ (∀ z ∈ share, 0 ≤ z) ∧ share.sum = 2 ^ log.toNat
instance (share : List Int) (log : Int) : Decidable (ShMay share log) := by unfold ShMay; exact inferInstance
/-- has the symbol some share? -/
def okSym (share : List Int) (s : Int) : Bool := decide (0 ≤ s ∧ s < share.length ∧ share.getD s.toNat 0 ≠ 0)

/-- one symbol written: the state, the bits -/
def encStep (S : Nat) (share : List Int) (st : Int × List Int) (s : Int) : Int × List Int :=
  ((S : Int) + (posP (symP S share) s S).getD (st.1 / 2 ^ (shrN 10 st.1 (share.getD s.toNat 0)) - share.getD s.toNat 0).toNat 0,
    st.2 ++ bitsOf (shrN 10 st.1 (share.getD s.toNat 0)) (st.1 % 2 ^ (shrN 10 st.1 (share.getD s.toNat 0))))
/-- symbols written, from the last one on -/
def encAll (S : Nat) (share : List Int) (l : List Int) : Int × List Int := l.reverse.foldl (encStep S share) ((S : Int), [])
def encRow (log : Nat) (share : List Int) (l : List Int) : List Int := (encAll (2 ^ log) share l).2 ++ bitsOf log ((encAll (2 ^ log) share l).1 - 2 ^ log)
/-- Encode: the bytes, the error -/
def encS (share : List Int) (log : Int) (l : List Int) : List Int × Int :=
  if ShMay share log then
    if l.length ≤ 65536 ∧ l.all (okSym share) = true then (pack (encRow log.toNat share l ++ [1]), 0) else ([], 1)
  else ([], 4)

/-- one symbol read: the place, the bits that are left, the error -/
def decStep (S : Nat) (share : List Int) (p : Nat) (bs : List Int) : Int × List Int × Int :=
  let b := shlN 10 (xP share (symP S share) p) S
  let t := backS bs b
  (xP share (symP S share) p * 2 ^ b - S + t.1, t.2.1, t.2.2)
/-- behind k symbols read: the symbols, the place, the bits that are left; none: an error -/
def decK (S : Nat) (share : List Int) (p : Nat) (bs : List Int) : Nat → Option (List Int × Nat × List Int)
  | 0 => some ([], p, bs)
  | k + 1 => match decK S share p bs k with
    | none => none
    | some (o, q, r) => if (decStep S share q r).2.2 = 0 then some (o ++ [(symP S share).getD q 0], (decStep S share q r).1.toNat, (decStep S share q r).2.1) else none
/-- Decode behind the first place -/
def decN (S : Nat) (share : List Int) (p : Nat) (bs : List Int) (n : Nat) : List Int × Int :=
  match decK S share p bs n with
  | none => ([], 3)
  | some (o, q, r) => if q = 0 ∧ r = [] then (o, 0) else ([], 3)
/-- the bits ahead of the mark -/
def markRow (zs : List Int) : List Int := (rowOf zs).take (markOf zs)
/-- Decode: the symbols, the error -/
def decS (share : List Int) (log : Int) (zs : List Int) (n : Int) : List Int × Int :=
  if ShMay share log then
    if n < 0 ∨ 65536 < n then ([], 1)
    else if zs = [] ∨ zs.getD (zs.length - 1) 0 = 0 then ([], 3)
    else if (backS (markRow zs) log).2.2 ≠ 0 then ([], 3)
    else decN (2 ^ log.toNat) share (backS (markRow zs) log).1.toNat (backS (markRow zs) log).2.1 n.toNat
  else ([], 4)
end Go.Proofs.Ytjdpijjoblfoaaa
