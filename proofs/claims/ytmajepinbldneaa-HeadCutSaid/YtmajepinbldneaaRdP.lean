/- Numbers read from octets; what head.From answers. -/
import Derived.Test.YtmajepinbldneaaHeadQ
import Derived.Test.YtmajepinbldneaaStr
import Derived.Test.YtmajepinbldneaaEngD
import Derived.Laws.BitsAllLaws
namespace Go.Proofs.Ytmajepinbldneaa
set_option linter.unusedVariables false
set_option linter.unusedSimpArgs false
open Go.RowKit
/-- The number of octets, the lowest one first. -/
def rd : List Int → Int
  | [] => 0
  | x :: xs => x + 256 * rd xs
theorem rd_append : ∀ xs ys : List Int, rd (xs ++ ys) = rd xs + 256 ^ xs.length * rd ys
  | [], ys => by simp [rd]
  | x :: xs, ys => by
    simp only [List.cons_append, rd, rd_append xs ys, List.length_cons, Int.pow_succ]
    rw [Int.mul_add, Int.mul_comm (256 ^ xs.length) 256, Int.mul_assoc]; omega
theorem rd_bound : ∀ {xs : List Int}, (∀ x ∈ xs, U8 x) → 0 ≤ rd xs ∧ rd xs < 256 ^ xs.length
  | [], _ => by simp [rd]
  | x :: xs, h => by
    have h1 := rd_bound (xs := xs) fun y hy => h y (List.mem_cons_of_mem _ hy)
    have h2 : U8 x := h x (by simp)
    unfold U8 at h2
    simp only [rd, List.length_cons, Int.pow_succ]
    omega
theorem pow256 (n : Nat) : (256 : Int) ^ n = ((256 ^ n : Nat) : Int) := by rw [Int.natCast_pow]; rfl
theorem pow256_le {n m : Nat} (h : n ≤ m) : (256 : Int) ^ n ≤ 256 ^ m := by
  rw [pow256, pow256]; exact Int.ofNat_le.2 (Nat.pow_le_pow_right (by decide) h)
theorem pow256_pos (n : Nat) : (0 : Int) < 256 ^ n := by
  rw [pow256]; exact Int.natCast_pos.2 (Nat.pow_pos (by decide))
theorem pow256_8 : (256 : Int) ^ 8 = 18446744073709551616 := by decide
theorem rd_U {xs : List Int} (h : ∀ x ∈ xs, U8 x) (hl : xs.length ≤ 8) : U (rd xs) := by
  have h1 := rd_bound h
  have h2 := pow256_le hl
  rw [pow256_8] at h2
  unfold U
  omega
/-- One octet more, as the code takes it in. -/
theorem rd_or {xs : List Int} {c : Int} (h : ∀ x ∈ xs, U8 x) (hc : U8 c) {s : Int} (hs : s = 8 * (xs.length : Int)) (hl : xs.length < 8) : bits .or .u64 (rd xs) (IntKind.u64.wrap (c * 2 ^ s.toNat)) = rd (xs ++ [c]) := by
  subst hs
  have h1 := rd_bound h
  have h2 := rd_U h (by omega)
  have hp : (2 : Int) ^ (8 * (xs.length : Int)).toNat = 256 ^ xs.length := by
    have e0 : (8 * (xs.length : Int)).toNat = 8 * xs.length := by omega
    rw [e0, Int.pow_mul]; rfl
  have hq := pow256_le (n := xs.length + 1) (m := 8) (by omega)
  rw [Int.pow_succ, pow256_8] at hq
  have hpos := pow256_pos xs.length
  unfold U8 at hc
  unfold U at h2
  have hm : c * 256 ^ xs.length ≤ 255 * 256 ^ xs.length := Int.mul_le_mul_of_nonneg_right hc.2 (by omega)
  have hm0 : 0 ≤ c * 256 ^ xs.length := Int.mul_nonneg hc.1 (by omega)
  rw [hp, wrap_u64_any, Int.emod_eq_of_lt hm0 (by omega)]
  rw [u64_or _ _ h1.1 (by omega) hm0 (by omega), rd_append]
  simp only [rd]
  obtain ⟨a, ha⟩ : ∃ a : Nat, rd xs = a := ⟨(rd xs).toNat, by omega⟩
  obtain ⟨d, hd⟩ : ∃ d : Nat, c = d := ⟨c.toNat, by omega⟩
  obtain ⟨p, hpp⟩ : ∃ p : Nat, p = 256 ^ xs.length := ⟨_, rfl⟩
  rw [pow256] at h1 hm0 hm ⊢
  rw [← hpp] at h1 hm0 hm ⊢
  subst hd
  rw [ha] at h1 ⊢
  have e1 : ((d : Int) * (p : Int)).toNat = d <<< (8 * xs.length) := by
    rw [Nat.shiftLeft_eq, Nat.pow_mul, ← Int.natCast_mul, Int.toNat_natCast, hpp]
  have e2 : a < 2 ^ (8 * xs.length) := by
    rw [Nat.pow_mul]
    show a < 256 ^ xs.length
    rw [← hpp]; omega
  rw [e1, Int.toNat_natCast, Nat.or_comm, ← Nat.shiftLeft_add_eq_or_of_lt e2, Nat.shiftLeft_eq, Nat.pow_mul]
  show ((d * 256 ^ xs.length + a : Nat) : Int) = _
  rw [← hpp, Int.natCast_add, Int.natCast_mul, Int.mul_zero, Int.add_zero, Int.mul_comm (p : Int)]
  omega
theorem rd_take_succ {xs : List Int} (h : ∀ x ∈ xs, U8 x) {i : Nat} {c : Int} (hc : xs[i]? = some c) (hi : i < 8) {s : Int} (hs : s = 8 * (i : Int)) : bits .or .u64 (rd (xs.take i)) (IntKind.u64.wrap (c * 2 ^ s.toNat)) = rd (xs.take (i + 1)) := by
  have hlt := (List.getElem?_eq_some_iff.1 hc).1
  have hl : (xs.take i).length = i := by rw [List.length_take]; omega
  rw [rd_or (fun x hx => h x (List.mem_of_mem_take hx)) (h c (List.mem_of_getElem? hc)) (by rw [hl]; exact hs) (by omega)]
  congr 1
  rw [List.take_add_one, hc]; rfl
/-- What was sealed, of octets. -/
def rdV (t : List Int) : Val := ⟨false, true, 0, 0, rd (t.take 8), rd ((t.drop 8).take 8), rd ((t.drop 16).take 8), rd ((t.drop 24).take 8), 0⟩
def rdP (t : List Int) : Part := ⟨⟨rd (t.take 8), rd ((t.drop 8).take 8)⟩, rdV ((t.drop 16).take 32)⟩
def rdPs : Nat → List Int → List Part
  | 0, _ => []
  | n + 1, t => rdP t :: rdPs n (t.drop 48)
def rdH (t : List Int) : Hdr := ⟨rd ((t.drop 1).take 1), rd ((t.drop 2).take 1), IntKind.i64.wrap (rd ((t.drop 3).take 8)), rdPs ((t.length - 47) / 48) (t.drop 15), rdV ((t.drop (t.length - 32)).take 32)⟩
open Classical in
noncomputable def fromE (t : List Int) : Int :=
  if 2097152 < t.length then 3 else if t.length < 47 ∨ (t.length - 47) % 48 ≠ 0 then 2 else if headCheck (rdH t) = 0 ∧ octH (rdH t) = t then 0 else 2
end Go.Proofs.Ytmajepinbldneaa
