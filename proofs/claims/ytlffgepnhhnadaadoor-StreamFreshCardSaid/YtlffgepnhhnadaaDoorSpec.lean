/- wkb's reader as a law on bytes, in plain Lean. -/
import Derived.Test.YtlffgepnhhnadaaDoorRead
namespace Go.Proofs.YtlffgepnhhnadaaDoor.Pl
open Go.RowKit

/-- an error: its place, its number -/
abbrev PErr := Int × Int
/-- the number in so many bytes -/
def wd (l : List UInt8) (at_ size : Nat) (lt : Bool) : Nat := decB ((l.drop at_).take size) lt
theorem wd_lt (l : List UInt8) (at_ size : Nat) (lt : Bool) : wd l at_ size lt < 256 ^ size :=
  Nat.lt_of_lt_of_le (decB_lt lt _) (Nat.pow_le_pow_right (by omega) (by simp; omega))
def numR (l : List UInt8) (lt : Bool) (at_ : Nat) : Except PErr Nat := if 3 ≤ cls (wd l at_ 8 lt) then .error (at_, 175) else .ok (wd l at_ 8 lt)
def ptR (l : List UInt8) (lt : Bool) (at_ : Nat) : Except PErr Pt :=
  match numR l lt at_ with
  | .error e => .error e
  | .ok x => match numR l lt (at_ + 8) with
    | .error e => .error e
    | .ok y => .ok (x, y)
/-- so many of what 'f' reads, one behind the other; what each takes is told by 'f' -/
def manyR {α : Type} (f : Nat → Except PErr (α × Nat)) : Nat → Nat → Except PErr (List α × Nat)
  | 0, at_ => .ok ([], at_)
  | n + 1, at_ => match f at_ with
    | .error e => .error e
    | .ok (x, at') => match manyR f n at' with
      | .error e => .error e
      | .ok (xs, at'') => .ok (x :: xs, at'')
def ptsR (l : List UInt8) (lt : Bool) (n at_ : Nat) : Except PErr (List Pt × Nat) := manyR (fun a => (ptR l lt a).map fun p => (p, a + 16)) n at_
def countR (l : List UInt8) (lt : Bool) (least at_ : Nat) : Except PErr (Nat × Nat) :=
  if l.length - at_ < 4 then .error (at_, 160) else if l.length - (at_ + 4) < wd l at_ 4 lt * least then .error (at_, 173) else .ok (wd l at_ 4 lt, at_ + 4)
def ringR (l : List UInt8) (lt : Bool) (at_ : Nat) : Except PErr (List Pt × Nat) :=
  if l.length - at_ < 4 then .error (at_, 160) else if wd l at_ 4 lt = 0 then .error (at_, 176) else if l.length - (at_ + 4) < wd l at_ 4 lt * 16 then .error (at_, 173) else ptsR l lt (wd l at_ 4 lt) (at_ + 4)
def placeR (l : List UInt8) (lt : Bool) (at_ : Nat) : Except PErr (List Pt × Nat) :=
  if l.length - at_ < 8 then .error (at_, 160) else if l.length - (at_ + 8) < 8 then .error (at_ + 8, 160)
  else if cls (wd l at_ 8 lt) = 4 ∧ cls (wd l (at_ + 8) 8 lt) = 4 then .ok ([], at_ + 16)
  else if 3 ≤ cls (wd l at_ 8 lt) then .error (at_, 175) else if 3 ≤ cls (wd l (at_ + 8) 8 lt) then .error (at_ + 8, 175)
  else .ok ([(wd l at_ 8 lt, wd l (at_ + 8) 8 lt)], at_ + 16)
def memberB (home kind : Int) : Bool := decide (home = 0) || decide (home = 7) || decide (kind = home - 3)
/-- the head of a geometry: its order, its kind -/
def headR (l : List UInt8) (deep : Int) (at_ : Nat) (level home : Int) : Except PErr (Bool × Nat) :=
  if h : l.length - at_ < 1 then .error (at_, 160) else
  if 1 < (l[at_]'(by omega)).toNat then .error (at_, 170) else
  if l.length - (at_ + 1) < 4 then .error (at_ + 1, 160) else
  if wd l (at_ + 1) 4 ((l[at_]'(by omega)).toNat == 1) < 1 ∨ 7 < wd l (at_ + 1) 4 ((l[at_]'(by omega)).toNat == 1) then .error (at_ + 1, 171) else
  if memberB home (wd l (at_ + 1) 4 ((l[at_]'(by omega)).toNat == 1)) = false then .error (at_ + 1, 172) else
  if deep < level then .error (at_, 191) else .ok ((l[at_]'(by omega)).toNat == 1, wd l (at_ + 1) 4 ((l[at_]'(by omega)).toNat == 1))
/-- a geometry, the place behind it, the orders of it and of its parts -/
def geomR (l : List UInt8) (deep : Int) : Nat → Int → Int → Nat → Except PErr ((G × List Bool) × Nat)
  | 0, _, _, at_ => .error (at_, 191)
  | f + 1, level, home, at_ =>
    match headR l deep at_ level home with
    | .error e => .error e
    | .ok (lt, k) =>
      if k = 1 then (placeR l lt (at_ + 5)).map fun r => ((.mk 1 r.1 [] [], [lt]), r.2)
      else if k = 2 then
        match countR l lt 16 (at_ + 5) with
        | .error e => .error e
        | .ok (n, a) => (ptsR l lt n a).map fun r => ((.mk 2 r.1 [] [], [lt]), r.2)
      else if k = 3 then
        match countR l lt 20 (at_ + 5) with
        | .error e => .error e
        | .ok (n, a) => (manyR (ringR l lt) n a).map fun r => ((.mk 3 [] r.1 [], [lt]), r.2)
      else
        match countR l lt (if k = 4 then 21 else 9) (at_ + 5) with
        | .error e => .error e
        | .ok (n, a) => (manyR (geomR l deep f (level + 1) k) n a).map fun r => ((.mk k [] [] (r.1.map (·.1)), lt :: (r.1.map (·.2)).flatten), r.2)
/-- all of Parse: the tree and the orders, or the error -/
def parseR (l : List UInt8) (maxDepth maxBytes : Int) : Except PErr (G × List Bool) :=
  if min (max maxBytes 0) 65536 < l.length then .error (min (max maxBytes 0) 65536, 192) else
  match geomR l (min maxDepth 256) 257 1 0 0 with
  | .error e => .error e
  | .ok (r, a) => if a < l.length then .error (a, 174) else .ok r

theorem manyR_zero {α : Type} (f : Nat → Except PErr (α × Nat)) (a : Nat) : manyR f 0 a = .ok ([], a) := rfl
/-- what a loop keeps: what was read, and what is still to be read -/
def manyK {α : Type} (f : Nat → Except PErr (α × Nat)) (n at_ : Nat) (xs : List α) (m a : Nat) : Prop := manyR f n at_ = (manyR f m a).map fun r => (xs ++ r.1, r.2)
theorem manyK_start {α : Type} (f : Nat → Except PErr (α × Nat)) (n a : Nat) : manyK f n a [] n a := by
  unfold manyK
  cases manyR f n a <;> simp [Except.map]
theorem manyK_err {α : Type} {f : Nat → Except PErr (α × Nat)} {n at_ : Nat} {xs : List α} {m a : Nat} {e : PErr} (h : manyK f n at_ xs (m + 1) a) (hf : f a = .error e) : manyR f n at_ = .error e := by
  unfold manyK at h; rw [h]; simp [manyR, hf, Except.map]
theorem manyK_next {α : Type} {f : Nat → Except PErr (α × Nat)} {n at_ : Nat} {xs : List α} {m a a' : Nat} {x : α} (h : manyK f n at_ xs (m + 1) a) (hf : f a = .ok (x, a')) : manyK f n at_ (xs ++ [x]) m a' := by
  unfold manyK at h ⊢; rw [h]; simp only [manyR, hf]
  cases manyR f m a' <;> simp [Except.map]
theorem manyK_end {α : Type} {f : Nat → Except PErr (α × Nat)} {n at_ : Nat} {xs : List α} {a : Nat} (h : manyK f n at_ xs 0 a) : manyR f n at_ = .ok (xs, a) := by
  unfold manyK at h; rw [h]; simp [manyR, Except.map]
end Go.Proofs.YtlffgepnhhnadaaDoor.Pl
