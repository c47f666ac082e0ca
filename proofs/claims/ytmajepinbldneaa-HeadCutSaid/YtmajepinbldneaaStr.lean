/- Octets as strings; one bit turned. -/
import Derived.Test.YtmajepinbldneaaBase
import Derived.Test.YtmajepinbldneaaOctP
import Derived.Test.YtmajepinbldneaaProg
import Derived.Laws.BytesArg
import Derived.Lib.Bytes
import Derived.Laws.BitsAllLaws
namespace Go.Proofs.Ytmajepinbldneaa
set_option linter.unusedVariables false
set_option linter.unusedSimpArgs false
open Go.RowKit
def U8 (x : Int) : Prop := 0 ≤ x ∧ x ≤ 255
theorem run_str (w : World) (A : Option Addr) (c : Nat) (xs : List Int) (h : Sl byteCells 1 w A xs) : (convert 35 9 (.slice A xs.length c)).run Try.prog w = .ok (.string (strOfNums xs)) w := by
  rcases h with rfl | ⟨g, o, rfl, hg, hc⟩
  · rw [run_convert_bytes_string w 35 9 5 A _ c Try.underlying35 Try.underlying5 Try.underlying9]
    cases A with
    | none => simp [Conv.bytesToString, strOfNums, ByteArray.empty, ByteArray.emptyWithCapacity]; rfl
    | some ad => simp [Conv.bytesToString, loadCells, loadCellsFrom, strOfNums, ByteArray.empty, ByteArray.emptyWithCapacity]; rfl
  · refine run_convert_bytes_arg w 35 5 Try.underlying35 Try.underlying5 g o xs.length c xs rfl (fun i hi => ?_) _ Try.underlying9
    have := hc i xs[i] (List.getElem?_eq_getElem hi) 0 _ rfl
    simpa [List.getD, List.getElem?_eq_getElem hi] using this
theorem str_inj {xs ys : List Int} (hx : ∀ x ∈ xs, U8 x) (hy : ∀ y ∈ ys, U8 y) (h : strOfNums xs = strOfNums ys) : xs = ys := by
  have h1 : xs.map (fun n => UInt8.ofNat n.toNat) = ys.map (fun n => UInt8.ofNat n.toNat) := by
    rw [← strOfNums_data, ← strOfNums_data, h]
  clear h
  induction xs generalizing ys with
  | nil => cases ys with
    | nil => rfl
    | cons y ys => simp at h1
  | cons x xs ih => cases ys with
    | nil => simp at h1
    | cons y ys =>
      simp only [List.map_cons, List.cons.injEq] at h1
      have a := hx x (by simp)
      have b := hy y (by simp)
      have e : x = y := by
        have := congrArg UInt8.toNat h1.1
        simp only [UInt8.toNat_ofNat'] at this
        unfold U8 at a b
        omega
      rw [e, ih (fun z hz => hx z (by simp [hz])) (fun z hz => hy z (by simp [hz])) h1.2]
theorem str_beq {xs ys : List Int} (hx : ∀ x ∈ xs, U8 x) (hy : ∀ y ∈ ys, U8 y) : ((strOfNums xs).toList == (strOfNums ys).toList) = decide (xs = ys) := by
  by_cases h : xs = ys
  · subst h; simp
  · rw [decide_eq_false h, beq_eq_false_iff_ne]
    intro e
    refine h (str_inj hx hy ?_)
    have e1 : (strOfNums xs).data.toList = (strOfNums ys).data.toList := by rwa [ByteArray.toList_eq, ByteArray.toList_eq] at e
    cases hs : strOfNums xs; cases ht : strOfNums ys
    rw [hs, ht] at e1
    simp at e1
    rw [e1]
theorem le_u8 (n : Int) (k : Nat) : ∀ x ∈ le n k, U8 x := by
  intro x hx
  simp only [le, List.mem_map, List.mem_range, byteAt] at hx
  obtain ⟨i, _, rfl⟩ := hx
  unfold U8
  omega
theorem octS_u8 (v : Val) : ∀ x ∈ octS v, U8 x := by
  intro x hx
  simp only [octS, octB, List.mem_append] at hx
  rcases hx with (hx | hx) | (hx | hx) <;> exact le_u8 _ _ x hx
/-- One bit turned. -/
def turn1 (n : Int) : Int := bits .xor .u64 n 1
theorem turn1_nat (n : Int) (h : U n) : turn1 n = ((n.toNat ^^^ 1 : Nat) : Int) := by
  unfold U at h
  have := u64_xor n 1 h.1 (by omega) (by omega) (by omega)
  unfold turn1
  simpa using this
theorem turn1_U (n : Int) (h : U n) : U (turn1 n) := by
  rw [turn1_nat n h]
  have h2 : (n.toNat ^^^ 1) < 2 ^ 64 := Nat.xor_lt_two_pow (by unfold U at h; omega) (by omega)
  unfold U; omega
theorem turn1_ne (n : Int) (h : U n) : turn1 n % 256 ≠ n % 256 := by
  rw [turn1_nat n h]
  have hp : (n.toNat ^^^ 1) % 2 ≠ n.toNat % 2 := by
    intro he
    have t : ∀ m : Nat, m.testBit 0 = decide (m % 2 = 1) := fun m => by simp [Nat.testBit_zero]
    have h1 := t (n.toNat ^^^ 1)
    rw [Nat.testBit_xor, t, t, he] at h1
    simp at h1
  unfold U at h
  omega
theorem le_head (n : Int) (k : Nat) : (le n (k + 1))[0]? = some (n % 256) := by
  simp [le, byteAt]
theorem octS_turned (v : Val) (h : U v.t0) : octS { v with t0 := turn1 v.t0 } ≠ octS v := by
  intro e
  simp only [octS] at e
  have e1 := (List.append_inj e (by simp only [octB_length])).2
  simp only [octB] at e1
  have e2 := (List.append_inj e1 (by simp only [le_length])).1
  have e3 := le_head (turn1 v.t0) 7
  rw [e2, le_head] at e3
  injection e3 with e3
  exact turn1_ne _ h e3.symm
end Go.Proofs.Ytmajepinbldneaa
