/- What is written is read: plain laws on texts of headers. -/
import Derived.Test.YtmajepinbldneaaFromB
namespace Go.Proofs.Ytmajepinbldneaa
set_option linter.unusedVariables false
set_option linter.unusedSimpArgs false
open Go.RowKit
theorem fromE_zero {xs : List Int} (h : fromE xs = 0) : headCheck (rdH xs) = 0 ∧ octH (rdH xs) = xs := by
  unfold fromE at h
  split at h
  · cases h
  · split at h
    · cases h
    · split at h
      · assumption
      · cases h
theorem rd_le : ∀ (k : Nat) (n : Int), 0 ≤ n → rd (le n k) = n % 256 ^ k
  | 0, n, _ => by simp [le, rd]
  | k + 1, n, h => by
    rw [le_succ, rd_append, rd_le k n h, le_length]
    simp only [rd, Int.mul_zero, Int.add_zero, byteAt]
    have e1 : (2 : Int) ^ (8 * k) = 256 ^ k := by rw [Int.pow_mul]; rfl
    rw [e1]
    obtain ⟨m, rfl⟩ : ∃ m : Nat, n = m := ⟨n.toNat, by omega⟩
    have h2 := Nat.mod_mul (x := m) (a := 256 ^ k) (b := 256)
    rw [← Nat.pow_succ] at h2
    rw [pow256, pow256, ← Int.natCast_ediv, show (256 : Int) = ((256 : Nat) : Int) from rfl, ← Int.natCast_emod, ← Int.natCast_emod, ← Int.natCast_emod, ← Int.natCast_mul, ← Int.natCast_add, h2]
theorem rd_le8 {n : Int} (h : U n) : rd (le n 8) = n := by
  unfold U at h
  rw [rd_le 8 n h.1, pow256_8]
  omega
theorem rd_one (y : Int) : rd [y] = y := by simp [rd]
theorem shutB_iff {v : Val} : shutB v = true ↔ v = ⟨false, true, 0, 0, v.c0, v.c1, v.t0, v.t1, 0⟩ := by
  unfold shutB
  rw [Bool.and_eq_true, Val.eqB_iff]
  constructor
  · exact fun h => h.2
  · intro h; refine ⟨by rw [h], h⟩
theorem rdV_octS {v : Val} (h : shutB v = true) (hv : v.ok) (R : List Int) : rdV (octS v ++ R) = v := by
  obtain ⟨_, _, h1, h2, h3, h4⟩ := hv
  rw [shutB_iff] at h
  have e0 : octS v ++ R = le v.c0 8 ++ (le v.c1 8 ++ (le v.t0 8 ++ (le v.t1 8 ++ R))) := by simp [octS, octB]
  have e1 : (octS v ++ R).drop 8 = le v.c1 8 ++ (le v.t0 8 ++ (le v.t1 8 ++ R)) := by rw [e0]; exact List.drop_left' (le_length _ _)
  have e2 : (octS v ++ R).drop 16 = le v.t0 8 ++ (le v.t1 8 ++ R) := by rw [show 16 = 8 + 8 from rfl, ← List.drop_drop, e1]; exact List.drop_left' (le_length _ _)
  have e3 : (octS v ++ R).drop 24 = le v.t1 8 ++ R := by rw [show 24 = 16 + 8 from rfl, ← List.drop_drop, e2]; exact List.drop_left' (le_length _ _)
  unfold rdV
  rw [e1, e2, e3, e0, List.take_left' (le_length _ _), List.take_left' (le_length _ _), List.take_left' (le_length _ _), List.take_left' (le_length _ _), rd_le8 h1, rd_le8 h2, rd_le8 h3, rd_le8 h4]
  exact h.symm
theorem rdV_take (t : List Int) : rdV (t.take 32) = rdV t := by
  unfold rdV
  simp only [List.take_take, List.drop_take]
  rfl
theorem rdP_octP {p : Part} (h : shutB p.w = true) (hp : p.ok) (R : List Int) : rdP (octP p ++ R) = p := by
  obtain ⟨⟨h1, h2⟩, h3⟩ := hp
  have e0 : octP p ++ R = le p.s.i 8 ++ (le p.s.j 8 ++ (octS p.w ++ R)) := by simp [octP]
  have e1 : (octP p ++ R).drop 8 = le p.s.j 8 ++ (octS p.w ++ R) := by rw [e0]; exact List.drop_left' (le_length _ _)
  have e2 : (octP p ++ R).drop 16 = octS p.w ++ R := by rw [show 16 = 8 + 8 from rfl, ← List.drop_drop, e1]; exact List.drop_left' (le_length _ _)
  unfold rdP
  rw [rdV_take, e1, e2, e0, List.take_left' (le_length _ _), List.take_left' (le_length _ _), rd_le8 h1, rd_le8 h2, rdV_octS h h3]
theorem rdPs_octPs : ∀ (l : List Part) (R : List Int), (∀ p ∈ l, shutB p.w = true ∧ p.ok) → rdPs l.length (l.flatMap octP ++ R) = l
  | [], R, _ => rfl
  | p :: l, R, h => by
    have e0 : (p :: l).flatMap octP ++ R = octP p ++ (l.flatMap octP ++ R) := by simp
    rw [e0, List.length_cons, rdPs, rdP_octP (h p (by simp)).1 (h p (by simp)).2, List.drop_left' (octP_length p), rdPs_octPs l R fun q hq => h q (List.mem_cons_of_mem _ hq)]
theorem headCheck_ranges {x : Hdr} (h : headCheck x = 0) : (1 ≤ x.sc ∧ x.sc ≤ 3) ∧ (1 ≤ x.h ∧ x.h ≤ 32) ∧ (1 ≤ x.ep ∧ x.ep ≤ 1099511627776) ∧ x.l.length ≤ 32768 ∧ shutB x.pay = true ∧ ∀ p ∈ x.l, shutB p.w = true := by
  rw [headCheck_iff] at h
  obtain ⟨⟨f1, f2, f3, f4, f5, f6⟩, h1, h2⟩ := h
  have g := nodeCheck_zero.1 f1
  have s : 1 ≤ x.sc ∧ x.sc ≤ 3 := by
    unfold layerMay at f6
    split at f6
    · cases f6
    · rename_i hn
      simp only [not_or, Classical.not_not] at hn
      have := hn.1
      unfold layerCheck at this
      split at this
      · cases this
      · omega
  exact ⟨s, ⟨g.1, g.2.1⟩, ⟨f2, f3⟩, by omega, f5, fun p hp => (h1 p hp).2.2⟩
theorem rdH_octH {x : Hdr} (h : headCheck x = 0) (hk : ∀ p ∈ x.l, p.ok) (hp : x.pay.ok) : rdH (octH x) = x := by
  obtain ⟨h1, h2, h3, h4, h5, h6⟩ := headCheck_ranges h
  rw [rdH_eq (octH_length x)]
  have e3 : (octH x).drop 3 = le x.ep 8 ++ (le x.l.length 4 ++ (x.l.flatMap octP ++ octS x.pay)) := by
    show ([] ++ le x.ep 8 ++ le x.l.length 4) ++ (x.l.flatMap octP ++ octS x.pay) = _
    simp
  have e11 : (octH x).drop 11 = le x.l.length 4 ++ (x.l.flatMap octP ++ octS x.pay) := by rw [show 11 = 3 + 8 from rfl, ← List.drop_drop, e3]; exact List.drop_left' (le_length _ _)
  have e15 : (octH x).drop 15 = x.l.flatMap octP ++ octS x.pay := by rw [show 15 = 11 + 4 from rfl, ← List.drop_drop, e11]; exact List.drop_left' (le_length _ _)
  have e47 : (octH x).drop (15 + 48 * x.l.length) = octS x.pay := by rw [← List.drop_drop, e15]; exact List.drop_left' (octPs_length _)
  have a1 : ((octH x).drop 1).take 1 = [x.sc % 256] := rfl
  have a2 : ((octH x).drop 2).take 1 = [x.h % 256] := rfl
  have v := rdV_octS h5 hp []
  rw [List.append_nil] at v
  have w64 : IntKind.i64.wrap x.ep = x.ep := wrap_i64 _ ⟨by omega, by omega⟩
  rw [a1, a2, e3, e15, e47, rd_one, rd_one, List.take_left' (le_length _ _), rd_le8 ⟨by omega, by omega⟩, rdPs_octPs _ _ (fun p hq => ⟨h6 p hq, hk p hq⟩), rdV_take, v, w64, show x.sc % 256 = x.sc by omega, show x.h % 256 = x.h by omega]
theorem octH_short {x : Hdr} (h : headCheck x = 0) : (octH x).length ≤ 1572911 := by
  have := (headCheck_ranges h).2.2.2.1
  rw [octH_length]; omega
theorem fromE_octH {x : Hdr} (h : headCheck x = 0) (hk : ∀ p ∈ x.l, p.ok) (hp : x.pay.ok) : fromE (octH x) = 0 := by
  have h1 := octH_short h
  have h2 := octH_length x
  have h3 := rdH_octH h hk hp
  unfold fromE
  rw [if_neg (by omega), if_neg (by omega), if_pos (by rw [h3]; exact ⟨h, rfl⟩)]
theorem rdV_ok' {xs : List Int} (hx : ∀ x ∈ xs, U8 x) (h : fromE xs = 0) : (rdH xs).pay.ok ∧ ∀ p ∈ (rdH xs).l, p.ok :=
  ⟨rdV_ok fun x h => hx x (List.mem_of_mem_drop (List.mem_of_mem_take h)), rdPs_ok _ fun x h => hx x (List.mem_of_mem_drop h)⟩
/-- A text tells how many parts it has. -/
theorem fromE_count {xs : List Int} (h : fromE xs = 0) : xs.length = 47 + 48 * (rdH xs).l.length ∧ rd ((xs.drop 11).take 4) = (rdH xs).l.length := by
  obtain ⟨h1, h2⟩ := fromE_zero h
  have h3 := (headCheck_ranges h1).2.2.2.1
  have h4 := octH_length (rdH xs)
  rw [h2] at h4
  refine ⟨h4, ?_⟩
  generalize rdH xs = x at *
  subst h2
  have e3 : (octH x).drop 3 = le x.ep 8 ++ (le x.l.length 4 ++ (x.l.flatMap octP ++ octS x.pay)) := by
    show ([] ++ le x.ep 8 ++ le x.l.length 4) ++ (x.l.flatMap octP ++ octS x.pay) = _
    simp
  have e11 : (octH x).drop 11 = le x.l.length 4 ++ (x.l.flatMap octP ++ octS x.pay) := by rw [show 11 = 3 + 8 from rfl, ← List.drop_drop, e3]; exact List.drop_left' (le_length _ _)
  rw [e11, List.take_left' (le_length _ _), rd_le 4 _ (by omega)]
  have : (256 : Int) ^ 4 = 4294967296 := by decide
  rw [this]; omega
theorem fromE_three {xs : List Int} (h : xs.length ≤ 2097152) : fromE xs = 0 ∨ fromE xs = 2 := by
  unfold fromE
  rw [if_neg (by omega)]
  split
  · exact .inr rfl
  · split
    · exact .inl rfl
    · exact .inr rfl
/-- No beginning of a text is one. -/
theorem fromE_cut {xs : List Int} (h : fromE xs = 0) {k : Nat} (hk : k < xs.length) : fromE (xs.take k) = 2 := by
  have h0 := octH_short (fromE_zero h).1
  rw [(fromE_zero h).2] at h0
  rcases fromE_three (xs := xs.take k) (by simp; omega) with h1 | h1
  · exfalso
    obtain ⟨a1, a2⟩ := fromE_count h
    obtain ⟨b1, b2⟩ := fromE_count h1
    rw [List.length_take] at b1
    have e1 : (((xs.take k).drop 11).take 4) = (xs.drop 11).take 4 := by
      rw [List.drop_take, List.take_take, show min 4 (k - 11) = 4 by omega]
    rw [e1, a2] at b2
    omega
  · exact h1
/-- Nor with octets behind it. -/
theorem fromE_more {xs ys : List Int} (h : fromE xs = 0) (hy : ys ≠ []) : fromE (xs ++ ys) ≠ 0 := by
  intro h1
  have := fromE_cut h1 (k := xs.length) (by have := List.length_pos_iff.2 hy; simp; omega)
  rw [List.take_left' rfl, h] at this
  cases this
theorem octH_inj {x y : Hdr} (hx : headCheck x = 0) (hy : headCheck y = 0) (kx : ∀ p ∈ x.l, p.ok) (px : x.pay.ok) (ky : ∀ p ∈ y.l, p.ok) (py : y.pay.ok) (h : octH x = octH y) : x = y := by
  rw [← rdH_octH hx kx px, h, rdH_octH hy ky py]
end Go.Proofs.Ytmajepinbldneaa
