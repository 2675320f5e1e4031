/- The references' plain functions, on numbers and lists: no Go and no program in sight. -/
set_option autoImplicit false
namespace Go.Proofs.Ytilkkfpfcegncaa.R

def right (w : Int) : Bool := decide (8 < w) && (decide (1 ≤ w % 8) && (decide (w % 8 ≤ 5) && decide (w / 8 ≤ 65536)))
def kind (w : Int) : Int := if right w = true then w % 8 else 0
def addr (w : Int) : Int := if right w = true then w / 8 else 0

def of (kind at_ : Int) : Int := if (1 ≤ kind ∧ kind ≤ 5) ∧ (1 ≤ at_ ∧ at_ ≤ 65536) then 8 * at_ + kind else 0
def within (n : Int) : Bool := decide (0 ≤ n ∧ n ≤ 1099511627776)
def keyAt (n i : Int) : Int := if within n = true ∧ within i = true then n + 4 + i else 0
def childAt (n d i : Int) : Int := if within n = true ∧ within d = true ∧ within i = true then n + 4 + d + i else 0
def gap (a b : Int) : Int := if b < a then 0 else b - a

theorem right_eq (x : Int) : right x = true ↔ 8 < x ∧ 1 ≤ x % 8 ∧ x % 8 ≤ 5 ∧ x / 8 ≤ 65536 := by simp [right]
theorem right_ne (x : Int) : right x = false ↔ ¬ (8 < x ∧ 1 ≤ x % 8 ∧ x % 8 ≤ 5 ∧ x / 8 ≤ 65536) := by rw [← right_eq]; simp
theorem within_eq (x : Int) : within x = true ↔ 0 ≤ x ∧ x ≤ 1099511627776 := by simp [within]
theorem within_ne (x : Int) : within x = false ↔ ¬ (0 ≤ x ∧ x ≤ 1099511627776) := by rw [← within_eq]; simp
theorem kind_bd (x : Int) : 0 ≤ kind x ∧ kind x ≤ 5 := by
  unfold kind; split
  · rename_i h; rw [right_eq] at h; omega
  · omega
theorem addr_bd (x : Int) : 0 ≤ addr x ∧ addr x ≤ 65536 := by
  unfold addr; split
  · rename_i h; rw [right_eq] at h; omega
  · omega

/-- An access that is asked for: 1 Read, 2 Write, 3 Cas, 4 Add, 5 Make. -/
structure Ask where
  kind : Int
  a : Int
  x : Int
  y : Int
  w : List Int

/-- It is an int64. -/
abbrev I64 (x : Int) : Prop := -9223372036854775808 ≤ x ∧ x ≤ 9223372036854775807
theorem i64_0 : I64 0 := ⟨by decide, by decide⟩
structure Ask.Ok (q : Ask) : Prop where
  x : I64 q.x
  y : I64 q.y
  w : ∀ e ∈ q.w, I64 e

/-- A run of a procedure: what its accesses told so far, how many were used; off: it stands ahead of next. -/
structure RS where
  tape : List Int
  pos : Nat
  off : Bool
  next : Ask
  record : Int
  laid : Int

def ask (q : Ask) (s : RS) : Int × RS :=
  if s.off = true then (0, s) else if s.pos < s.tape.length then (s.tape.getD s.pos 0, { s with pos := s.pos + 1 }) else (0, { s with off := true, next := q })
def w64 (n : Int) : Int := (n + 9223372036854775808) % 18446744073709551616 - 9223372036854775808
def read (a : Int) (s : RS) : Int × RS := ask ⟨1, a, 0, 0, []⟩ s
def write (a x : Int) (s : RS) : RS := (ask ⟨2, a, x, 0, []⟩ s).2
def cas (a old x : Int) (s : RS) : Bool × RS := ((ask ⟨3, a, old, x, []⟩ s).1 == 1, (ask ⟨3, a, old, x, []⟩ s).2)
def add (a d : Int) (s : RS) : Int × RS := ask ⟨4, a, d, 0, []⟩ s
def make (w : List Int) (s : RS) : Int × RS := ask ⟨5, 0, 0, 0, w⟩ s

/-- Cells that are shared. -/
structure MS where
  c : List Int
  max : Int
  count : Int
  odd : Int
  refused : Int
/-- Is there such a cell? -/
def MS.has (M : MS) (a : Int) : Prop := 1 ≤ a ∧ a ≤ M.c.length
instance (M : MS) (a : Int) : Decidable (M.has a) := by unfold MS.has; exact inferInstance
def MS.at_ (M : MS) (a : Int) : Int := if M.has a then M.c.getD (a - 1).toNat 0 else 0
def MS.met (M : MS) (a : Int) : MS := if M.has a then { M with count := w64 (M.count + 1) } else { M with count := w64 (M.count + 1), odd := w64 (M.odd + 1) }
def MS.put (M : MS) (a x : Int) : MS := if M.has a then { M with c := M.c.set (a - 1).toNat x } else M
def MS.fits (M : MS) (W : List Int) : Prop := W ≠ [] ∧ (W.length : Int) ≤ M.max - M.c.length
instance (M : MS) (W : List Int) : Decidable (M.fits W) := by unfold MS.fits; exact inferInstance
def MS.make (M : MS) (W : List Int) : MS := if M.fits W then { M with c := M.c ++ W, count := w64 (M.count + 1) } else { M with count := w64 (M.count + 1), refused := w64 (M.refused + 1) }
def MS.made (M : MS) (W : List Int) : Int := if M.fits W then M.c.length + 1 else 0
structure MS.Ok (M : MS) : Prop where
  max0 : 1 ≤ M.max
  max1 : M.max ≤ 65536
  len : (M.c.length : Int) ≤ M.max
  bd : ∀ x ∈ M.c, -9223372036854775808 ≤ x ∧ x ≤ 9223372036854775807

/-- An access, made: what it tells, and the cells behind it. -/
def doAsk (q : Ask) (M : MS) : Int × MS :=
  if q.kind = 1 then (M.at_ q.a, M.met q.a)
  else if q.kind = 2 then (0, (M.met q.a).put q.a q.x)
  else if q.kind = 3 then (if M.has q.a ∧ M.at_ q.a = q.x then (1, (M.met q.a).put q.a q.y) else (0, M.met q.a))
  else if q.kind = 4 then (M.at_ q.a, (M.met q.a).put q.a (w64 (M.at_ q.a + q.x)))
  else if q.kind = 5 then (M.made q.w, M.make q.w)
  else (0, M)

/-- The part of n, as p is of q. -/
def share (p q n : Int) : Int := if q = 0 ∨ n < 1 ∨ 65536 < n then 0 else (if p ≤ q then p else q) * n / q
def guess (first last k n : Int) : Int := if n < 2 ∨ 65536 < n ∨ k < first ∨ last ≤ k then 0 else 1 + share (gap first k) (gap first last) (n - 1)

/-- 15.1, the keys below a guess, falling. -/
def down (n k : Int) : Nat → Int → RS → Int × RS
  | 0, _, s => (1, s)
  | f + 1, i, s => if 1 < i ∧ s.off = false then (if (read (keyAt n i) s).1 ≤ k then (i, (read (keyAt n i) s).2) else down n k f (i - 1) (read (keyAt n i) s).2) else (1, s)
/-- 15.1, the keys above a guess, rising. -/
def up (n k m : Int) : Nat → Int → RS → Int × RS
  | 0, _, s => (m - 1, s)
  | f + 1, i, s => if i < m ∧ s.off = false then (if k < (read (keyAt n i) s).1 then (i - 1, (read (keyAt n i) s).2) else up n k m f (i + 1) (read (keyAt n i) s).2) else (m - 1, s)
/-- 15.1, from the guess on. -/
def routeKeys.routeGuess (n k m j : Int) (s : RS) : Int × RS :=
  if s.off = true ∨ j < 1 then (0, s) else
  if 1 < j then (if k < (read (keyAt n j) s).1 then down n k (j - 1).toNat (j - 1) (read (keyAt n j) s).2 else up n k m (m - (j + 1)).toNat (j + 1) (read (keyAt n j) s).2)
  else up n k m (m - (j + 1)).toNat (j + 1) s
/-- 15.1: the child, its degree being known. -/
def routeKeys (n k m : Int) (s : RS) : Int × RS :=
  if m < 1 then (0, s) else
  if k < (read (keyAt n 1) s).1 then (0, (read (keyAt n 1) s).2) else
  if m = 1 then (1, (read (keyAt n 1) s).2) else
  if (read (keyAt n m) (read (keyAt n 1) s).2).1 ≤ k then (m, (read (keyAt n m) (read (keyAt n 1) s).2).2) else
  routeKeys.routeGuess n k m (guess (read (keyAt n 1) s).1 (read (keyAt n m) (read (keyAt n 1) s).2).1 k m) (read (keyAt n m) (read (keyAt n 1) s).2).2
/-- 15.1: the degree, the child. -/
def route (n k : Int) (s : RS) : (Int × Int) × RS :=
  (((read n s).1, (routeKeys n k (w64 ((read n s).1 - 1)) (read n s).2).1), (routeKeys n k (w64 ((read n s).1 - 1)) (read n s).2).2)


/-- The program's route: which access is next, and what it knows. -/
structure IR where
  next : Int
  n : Int
  k : Int
  degree : Int
  i : Int
  first : Int
  child : Int
def IR.keys (f : IR) : Int := w64 (f.degree - 1)
def IR.fin (f : IR) (c : Int) : IR := { f with child := c, next := 6 }
def IR.up (f : IR) (i : Int) : IR := if f.keys ≤ i then ({ f with next := 4, i := i } : IR).fin (w64 (f.keys - 1)) else { f with next := 4, i := i }
def IR.down (f : IR) (i : Int) : IR := if i ≤ 1 then ({ f with next := 5, i := i } : IR).fin 1 else { f with next := 5, i := i }
def IR.guess (f : IR) (last : Int) : IR := if 1 < Go.Proofs.Ytilkkfpfcegncaa.R.guess f.first last f.k f.keys then { f with next := 3, i := Go.Proofs.Ytilkkfpfcegncaa.R.guess f.first last f.k f.keys } else f.up 2
def IR.key (f : IR) (q : Int) : IR :=
  if f.next = 1 then
    (if f.k < q then ({ f with first := q, next := 2, i := f.keys } : IR).fin 0 else if f.keys = 1 then ({ f with first := q, next := 2, i := f.keys } : IR).fin 1 else { f with first := q, next := 2, i := f.keys })
  else if f.next = 2 then (if f.k < q then f.guess q else f.fin f.keys)
  else if f.next = 3 then (if f.k < q then f.down (w64 (f.i - 1)) else f.up (w64 (f.i + 1)))
  else if f.next = 4 then (if f.k < q then f.fin (w64 (f.i - 1)) else f.up (w64 (f.i + 1)))
  else if f.next = 5 then (if f.k < q then f.down (w64 (f.i - 1)) else f.fin f.i)
  else f
/-- Where it reads next. -/
def IR.addr (f : IR) : Int := if f.next = 0 then f.n else keyAt f.n f.i
def IR.step (f : IR) (q : Int) : IR :=
  if f.next = 0 then (if q < 2 then ({ f with degree := q, next := 1, i := 1 } : IR).fin 0 else { f with degree := q, next := 1, i := 1 })
  else f.key q


/-- How many keys are below k. -/
def place (k : Int) : List (Int × Int) → Nat
  | [] => 0
  | p :: l => if p.1 < k then place k l + 1 else 0
/-- With a key's value. -/
def put (l : List (Int × Int)) (k v : Int) : List (Int × Int) :=
  l.take (place k l) ++ [(k, v)] ++ l.drop (place k l + if (l[place k l]?).map (·.1) = some k then 1 else 0)
/-- A number from 0 to k - 1. -/
def cut (n k : Int) : Int := n % k
theorem place_le (k : Int) (l : List (Int × Int)) : place k l ≤ l.length := by
  induction l with
  | nil => simp [place]
  | cons p l ih => simp only [place]; split <;> simp <;> omega
theorem place_drop (k : Int) (l : List (Int × Int)) : ∀ (m : Nat) (p : Int × Int), l[m]? = some p → place k (l.drop m) = if p.1 < k then place k (l.drop (m + 1)) + 1 else 0 := by
  intro m p h
  obtain ⟨hlt, hp⟩ := List.getElem?_eq_some_iff.1 h
  rw [List.drop_eq_getElem_cons hlt, hp]
  rfl

end Go.Proofs.Ytilkkfpfcegncaa.R
