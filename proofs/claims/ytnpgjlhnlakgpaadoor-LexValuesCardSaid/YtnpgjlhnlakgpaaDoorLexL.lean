/- The lexer, in plain Lean: what tokens stand at the head of a text, and how a text is taken apart. No program in sight. -/
import Derived.Test.YtnpgjlhnlakgpaaDoorRunes
import Derived.Test.YtnpgjlhnlakgpaaDoorG01
namespace Go.Proofs.YtnpgjlhnlakgpaaDoor

def isDig (c : UInt8) : Bool := decide (48 ≤ c.toNat) && decide (c.toNat ≤ 57)
def isLet (c : UInt8) : Bool := ((decide (97 ≤ c.toNat) && decide (c.toNat ≤ 122)) || (decide (65 ≤ c.toNat) && decide (c.toNat ≤ 90))) || decide (c.toNat = 95)
def isNm (c : UInt8) : Bool := isLet c || isDig c
def isBl (c : UInt8) : Bool := ((decide (c.toNat = 32) || decide (c.toNat = 9)) || decide (c.toNat = 10)) || decide (c.toNat = 13)
/-- How many bytes of blanks and comments stand at the head; true: a comment is under way. -/
def skipM : Bool → List UInt8 → Nat
  | _, [] => 0
  | true, c :: r => 1 + skipM (!decide (c = 10)) r
  | false, c :: r => if isBl c then 1 + skipM false r else if c = 45 ∧ r.head? = some 45 then 1 + skipM true r else 0
theorem skipM_le : ∀ (l : List UInt8) (m : Bool), skipM m l ≤ l.length
  | [], m => by cases m <;> simp [skipM]
  | c :: r, true => by have := skipM_le r (!decide (c = 10)); simp [skipM]; omega
  | c :: r, false => by
    have h1 := skipM_le r false
    have h2 := skipM_le r true
    simp only [skipM, List.length_cons]
    split
    · omega
    · split <;> omega

/-- A token, or an error and its place (from the token's place on). -/
inductive Rs where
  | ok (k : Int) (s : ByteArray) (d : Dt) (n : Nat)
  | bad (e : Int) (o : Nat)

def upB (c : UInt8) : UInt8 := if 97 ≤ c.toNat ∧ c.toNat ≤ 122 then c - 32 else c
def loB (c : UInt8) : UInt8 := if 65 ≤ c.toNat ∧ c.toNat ≤ 90 then c + 32 else c

/-- The words of the language, one blank between. -/
def wordsT : List UInt8 := ((([65, 76, 76, 32, 65, 78, 68, 32, 65, 83, 32, 65, 83, 67, 32, 66, 79, 79, 76, 32, 66, 89, 32, 66, 89, 84, 69, 83, 32, 67, 65, 83, 69, 32].append [67, 82, 69, 65, 84, 69, 32, 68, 69, 67, 32, 68, 69, 76, 69, 84, 69, 32, 68, 69, 83, 67, 32, 68, 73, 83, 84, 73, 78, 67, 84, 32, 68, 82]).append ([79, 80, 32, 69, 76, 83, 69, 32, 69, 78, 68, 32, 69, 88, 67, 69, 80, 84, 32, 69, 88, 73, 83, 84, 83, 32, 70, 65, 76, 83, 69, 32, 70, 82].append [79, 77, 32, 71, 82, 79, 85, 80, 32, 72, 65, 86, 73, 78, 71, 32, 73, 78, 32, 73, 78, 68, 69, 88, 32, 73, 78, 78, 69, 82, 32, 73, 78, 83])).append (([69, 82, 84, 32, 73, 78, 84, 32, 73, 78, 84, 69, 82, 83, 69, 67, 84, 32, 73, 78, 84, 79, 32, 73, 83, 32, 74, 79, 73, 78, 32, 76, 65, 84].append [69, 82, 65, 76, 32, 76, 69, 70, 84, 32, 76, 73, 77, 73, 84, 32, 78, 79, 84, 32, 78, 85, 76, 76, 32, 79, 78, 32, 79, 82, 32, 79, 82, 68]).append ([69, 82, 32, 83, 69, 76, 69, 67, 84, 32, 83, 85, 66, 83, 67, 82, 73, 66, 69, 32, 84, 65, 66, 76, 69, 32, 84, 69, 88, 84, 32, 84, 72, 69].append [78, 32, 84, 82, 85, 69, 32, 85, 78, 73, 79, 78, 32, 86, 65, 76, 85, 69, 83, 32, 86, 73, 69, 87, 32, 87, 72, 69, 78, 32, 87, 72, 69, 82, 69])))
/-- Parts between blanks. -/
def partsF : List UInt8 → List (List UInt8)
  | [] => [[]]
  | c :: r => if c = 32 then [] :: partsF r else match partsF r with
    | [] => [[c]]
    | p :: ps => (c :: p) :: ps
def wordL : List (List UInt8) := partsF wordsT
def isWord (l : List UInt8) : Bool := wordL.contains l

def nameF (l : List UInt8) : Rs :=
  let t := l.takeWhile isNm
  if 20 < t.length then .bad 2 0
  else if isWord (t.map upB) then .ok 2 ⟨(t.map upB).toArray⟩ Dt.zero t.length
  else .ok 1 ⟨(t.map loB).toArray⟩ Dt.zero t.length

/-- The amount of digits. -/
def amtF (l : List UInt8) : Nat := l.foldl (fun n c => 10 * n + (c.toNat - 48)) 0
/-- Digits behind a point, if a point and a digit stand there. -/
def fracF : List UInt8 → Option (List UInt8)
  | 46 :: c :: r => if isDig c then some ((c :: r).takeWhile isDig) else none
  | _ => none
def numEnd (k : Int) (ds : List UInt8) (n : Nat) (l : List UInt8) : Rs :=
  if 9223372036854775808 < amtF ds ∨ (∃ c, (l.drop n).head? = some c ∧ isLet c = true) then .bad 42 0
  else .ok 3 ⟨#[]⟩ ⟨k, if amtF ds = 9223372036854775808 then -9223372036854775808 else (amtF ds : Int), ⟨#[]⟩⟩ n
instance (l : List UInt8) : Decidable (∃ c, l.head? = some c ∧ isLet c = true) :=
  match l with
  | [] => isFalse (by simp)
  | c :: r => if h : isLet c = true then isTrue ⟨c, rfl, h⟩ else isFalse (by simpa using h)
def numF (l : List UInt8) : Rs :=
  let a := l.takeWhile isDig
  match fracF (l.drop a.length) with
  | none => numEnd 2 a a.length l
  | some f => if 4 < f.length then .bad 42 0 else numEnd 3 (a ++ f ++ List.replicate (4 - f.length) 48) (a.length + 1 + f.length) l

/-- A place at which no rune begins. -/
def badL (l : List UInt8) : Bool := decide ((Lib.decodeL l).1 = 65533 ∧ (Lib.decodeL l).2 = 1)
/-- What a text's runes are, up to its end: none: it has no end; right: a place that is no rune's. -/
def txtGo : Nat → List UInt8 → Option ((List UInt8 × Nat) ⊕ Nat)
  | 0, _ => none
  | _ + 1, [] => none
  | f + 1, c :: r =>
    if c = 39 then
      if r.head? = some 39 then
        (match txtGo f r.tail with
        | none => none
        | some (.inl (v, n)) => some (.inl (39 :: v, n + 2))
        | some (.inr o) => some (.inr (o + 2)))
      else some (.inl ([], 1))
    else if badL (c :: r) then some (.inr 0)
    else
      (match txtGo f ((c :: r).drop (Lib.decodeL (c :: r)).2) with
      | none => none
      | some (.inl (v, n)) => some (.inl ((c :: r).take (Lib.decodeL (c :: r)).2 ++ v, n + (Lib.decodeL (c :: r)).2))
      | some (.inr o) => some (.inr (o + (Lib.decodeL (c :: r)).2)))
def textF (l : List UInt8) : Rs :=
  match txtGo l.length (l.drop 1) with
  | none => .bad 41 0
  | some (.inr o) => .bad 40 (1 + o)
  | some (.inl (v, n)) => if 1000 < v.length then .bad 2 0 else .ok 3 ⟨#[]⟩ ⟨4, 0, ⟨v.toArray⟩⟩ (1 + n)

def hexv (c : UInt8) : Option Nat :=
  if 48 ≤ c.toNat ∧ c.toNat ≤ 57 then some (c.toNat - 48) else if 97 ≤ c.toNat ∧ c.toNat ≤ 102 then some (c.toNat - 87) else if 65 ≤ c.toNat ∧ c.toNat ≤ 70 then some (c.toNat - 55) else none
/-- The digits of sixteen up to the end: none: no end; some none: another byte stands there. -/
def hexGo : List UInt8 → Option (Option (List Nat))
  | [] => none
  | c :: r => if c = 39 then some (some []) else match hexv c with
    | none => some none
    | some d => (hexGo r).map fun o => o.map fun ds => d :: ds
def pairsF : List Nat → List UInt8
  | a :: b :: r => UInt8.ofNat (16 * a + b) :: pairsF r
  | _ => []
def bytesF (l : List UInt8) : Rs :=
  match hexGo (l.drop 2) with
  | none => .bad 41 0
  | some none => .bad 42 0
  | some (some ds) => if ds.length % 2 = 1 then .bad 42 0 else if 1000 < (pairsF ds).length then .bad 2 0 else .ok 3 ⟨#[]⟩ ⟨5, 0, ⟨(pairsF ds).toArray⟩⟩ (ds.length + 3)

def sym2 (l : List UInt8) : Bool := l = [60, 61] ∨ l = [62, 61] ∨ l = [60, 62]
def sym1 (c : UInt8) : Bool := [40, 41, 44, 46, 59, 42, 43, 45, 47, 61, 60, 62].contains c
def symF (l : List UInt8) : Rs :=
  if sym2 (l.take 2) then .ok 4 ⟨(l.take 2).toArray⟩ Dt.zero 2
  else if sym1 (l.headD 0) then .ok 4 ⟨(l.take 1).toArray⟩ Dt.zero 1
  else .bad 40 0

/-- The token at the head. -/
def tokF (l : List UInt8) : Rs :=
  let c := l.headD 0
  if (c = 120 ∨ c = 88) ∧ l.tail.head? = some 39 then bytesF l
  else if isLet c then nameF l
  else if isDig c then numF l
  else if c = 39 then textF l
  else symF l

/-- A token with its place. -/
structure Tk where
  k : Int
  s : ByteArray
  d : Dt
  pos : Nat
abbrev Tk.v (t : Tk) : Value := .agg #[.int .i64 t.k, .string t.s, .int .i64 t.d.k, .int .i64 t.d.i, .string t.d.s, .int .i64 (t.pos : Int)]

/-- The tokens from a place on (blanks first), so many are there already; or the error and its place. -/
def lexGo : Nat → List UInt8 → Nat → Nat → (Int × Nat) ⊕ (List Tk)
  | 0, _, _, _ => .inr []
  | f + 1, l, p, n =>
    let b := skipM false l
    let l' := l.drop b
    if l' = [] then .inr []
    else if 1000 ≤ n then .inl (2, p + b)
    else match tokF l' with
      | .bad e o => .inl (e, p + b + o)
      | .ok k s d m => match lexGo f (l'.drop m) (p + b + m) (n + 1) with
        | .inl x => .inl x
        | .inr ts => .inr (⟨k, s, d, p + b⟩ :: ts)
def lexF (l : List UInt8) : (Int × Nat) ⊕ (List Tk) :=
  if 4000 < l.length then .inl (2, 0) else match lexGo (l.length + 1) l 0 0 with
    | .inl x => .inl x
    | .inr ts => .inr (ts ++ [⟨0, ⟨#[]⟩, Dt.zero, l.length⟩])
end Go.Proofs.YtnpgjlhnlakgpaaDoor
