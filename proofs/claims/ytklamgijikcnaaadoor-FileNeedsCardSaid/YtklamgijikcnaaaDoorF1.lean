/- Blocks of pointers of a file, as numbers: level, first data, parent, children; all by reckoning over the 642 blocks that there are. -/
import Derived.Test.YtklamgijikcnaaaDoorMaps
namespace Go.Proofs.YtklamgijikcnaaaDoor
open Go.RowKit

def spanN : Nat → Int
  | 0 => 0
  | 1 => 6
  | 2 => 22
  | 3 => 278
  | _ => 1073741824
def rootN (f : Int) : Nat := if f < 6 then 0 else if f < 22 then 1 else if f < 278 then 2 else 3
def wideN : Nat → Int
  | 0 => 1
  | 1 => 16
  | 2 => 256
  | _ => 4096
/-- Is n a block of pointers of level l? -/
def hitN (n : Int) (l : Nat) : Bool := decide (0 ≤ -(n + l - 1)) && decide (-(n + l - 1) < 600) && decide (l ≤ rootN (-(n + l - 1))) && decide ((-(n + l - 1) - spanN (rootN (-(n + l - 1)))) % wideN l = 0)
/-- A block's level, the first data that it covers. -/
def findN (n : Int) : Option (Nat × Int) :=
  if 0 ≤ n then (if n < 600 then some (0, n) else none) else if hitN n 1 then some (1, -n) else if hitN n 2 then some (2, -(n + 1)) else if hitN n 3 then some (3, -(n + 2)) else none
def lvlN (n : Int) : Nat := ((findN n).map (·.1)).getD 0
def fstN (n : Int) : Int := ((findN n).map (·.2)).getD 0
/-- At level j, on the way to data f: the block of pointers, the slot in it. -/
def wayN (f : Int) (j : Nat) : Int × Int :=
  let k := rootN f
  let i := f - spanN k
  (-(spanN k + (i - i % wideN j)) - ((j : Int) - 1), (i - (i - i % wideN j)) / wideN (j - 1))
/-- All blocks of pointers on the way to a block, from the inode on. -/
def pathN (n : Int) : List (Int × Int) := ((List.range (rootN (fstN n) - lvlN n)).map fun t => wayN (fstN n) (rootN (fstN n) - t))
/-- What leads to a block, and where: 600 is the inode. -/
def upN (n : Int) : Int × Int := if rootN (fstN n) = 0 then (600, fstN n) else if lvlN n = rootN (fstN n) then (600, 6 + rootN (fstN n) - 1) else wayN (fstN n) (lvlN n + 1)
/-- All blocks of pointers, in order. -/
def metasN : List Int := [-6, -23] ++ (List.range 16).map (fun (i : Nat) => -(22 + 16 * (i : Int))) ++ [-280, -279] ++ (List.range 16).map (fun (i : Nat) => -(278 + 16 * (i : Int))) ++ [-535] ++ (List.range 5).map (fun (i : Nat) => -(534 + 16 * (i : Int)))
/-- The block to which a pointer leads. -/
def childN (n : Int) (s : Nat) : Option Int :=
  if n = 600 then some (([0, 1, 2, 3, 4, 5, -6, -23, -280] : List Int)[s]?.getD 0) else
    let at_ := fstN n + s * wideN (lvlN n - 1)
    if 600 ≤ at_ then none else if lvlN n = 1 then some at_ else some (-at_ - ((lvlN n : Int) - 2))
end Go.Proofs.YtklamgijikcnaaaDoor
