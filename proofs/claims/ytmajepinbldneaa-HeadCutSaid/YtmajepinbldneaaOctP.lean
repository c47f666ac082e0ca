/- Octets of numbers, of blocks, of what was sealed. -/
import Derived.Test.YtmajepinbldneaaBase
namespace Go.Proofs.Ytmajepinbldneaa
set_option linter.unusedVariables false
set_option linter.unusedSimpArgs false
open Go.RowKit
def byteAt (n : Int) (i : Nat) : Int := n / 2 ^ (8 * i) % 256
/-- A number of k octets, the lowest one first. -/
def le (n : Int) (k : Nat) : List Int := (List.range k).map (byteAt n)
theorem le_length (n : Int) (k : Nat) : (le n k).length = k := by simp [le]
theorem le_succ (n : Int) (k : Nat) : le n (k + 1) = le n k ++ [byteAt n k] := by simp [le, List.range_succ]
def octB (b : Blk) : List Int := le b.a 8 ++ le b.b 8
def octS (v : Val) : List Int := octB ⟨v.c0, v.c1⟩ ++ octB ⟨v.t0, v.t1⟩
theorem octB_length (b : Blk) : (octB b).length = 16 := by simp [octB, le_length]
theorem octS_length (v : Val) : (octS v).length = 32 := by simp [octS, octB_length]
theorem octB_lit (b : Blk) : octB b = [b.a % 256, b.a / 256 % 256, b.a / 65536 % 256, b.a / 16777216 % 256, b.a / 4294967296 % 256, b.a / 1099511627776 % 256, b.a / 281474976710656 % 256, b.a / 72057594037927936 % 256,
    b.b % 256, b.b / 256 % 256, b.b / 65536 % 256, b.b / 16777216 % 256, b.b / 4294967296 % 256, b.b / 1099511627776 % 256, b.b / 281474976710656 % 256, b.b / 72057594037927936 % 256] := by
  simp [octB, le, List.range, List.range.loop, byteAt]
end Go.Proofs.Ytmajepinbldneaa
