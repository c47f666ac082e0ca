/- The walk of head.From. -/
import Derived.Test.YtmajepinbldneaaFromA
import Derived.Test.YtmajepinbldneaaHeadL
namespace Go.Proofs.Ytmajepinbldneaa
set_option linter.unusedVariables false
set_option linter.unusedSimpArgs false
open Go.RowKit
theorem rdPs_succ : ∀ (j : Nat) (t : List Int), rdPs (j + 1) t = rdPs j t ++ [rdP (t.drop (48 * j))]
  | 0, t => by simp [rdPs]
  | j + 1, t => by
    have := rdPs_succ j (t.drop 48)
    rw [rdPs, this, List.drop_drop, show 48 + 48 * j = 48 * (j + 1) by omega]
    rfl
theorem rdPs_length : ∀ (j : Nat) (t : List Int), (rdPs j t).length = j
  | 0, t => rfl
  | j + 1, t => by simp [rdPs, rdPs_length j]
theorem rdV_ok {t : List Int} (h : ∀ x ∈ t, U8 x) : (rdV t).ok := by
  have key : ∀ l : List Int, (∀ x ∈ l, x ∈ t) → U (rd (l.take 8)) := fun l hl => rd_U (fun x hx => h x (hl x (List.mem_of_mem_take hx))) (by simp; omega)
  refine ⟨by unfold U rdV; simp, by unfold U rdV; simp, key t (fun _ h => h), key _ (fun _ h => List.mem_of_mem_drop h), key _ (fun _ h => List.mem_of_mem_drop h), key _ (fun _ h => List.mem_of_mem_drop h)⟩
theorem rdP_ok {t : List Int} (h : ∀ x ∈ t, U8 x) : (rdP t).ok := by
  have key : ∀ l : List Int, (∀ x ∈ l, x ∈ t) → U (rd (l.take 8)) := fun l hl => rd_U (fun x hx => h x (hl x (List.mem_of_mem_take hx))) (by simp; omega)
  exact ⟨⟨key t (fun _ h => h), key _ (fun _ h => List.mem_of_mem_drop h)⟩, rdV_ok fun x hx => h x (List.mem_of_mem_drop (List.mem_of_mem_take hx))⟩
theorem rdPs_ok : ∀ (j : Nat) {t : List Int}, (∀ x ∈ t, U8 x) → ∀ p ∈ rdPs j t, p.ok
  | 0, t, _, p, hp => by cases hp
  | j + 1, t, h, p, hp => by
    rcases List.mem_cons.1 hp with rfl | hp
    · exact rdP_ok h
    · exact rdPs_ok j (fun x hx => h x (List.mem_of_mem_drop hx)) p hp
theorem rdH_eq {xs : List Int} {k : Nat} (hk : xs.length = 47 + 48 * k) : rdH xs = ⟨rd ((xs.drop 1).take 1), rd ((xs.drop 2).take 1), IntKind.i64.wrap (rd ((xs.drop 3).take 8)), rdPs k (xs.drop 15), rdV ((xs.drop (15 + 48 * k)).take 32)⟩ := by
  unfold rdH
  rw [show (xs.length - 47) / 48 = k by omega, show xs.length - 32 = 15 + 48 * k by omega]
theorem rd1 {l : List Int} (h : ∀ x ∈ l, U8 x) (hl : l.length ≤ 1) : 0 ≤ rd l ∧ rd l ≤ 255 := by
  have h1 := rd_bound h
  have h2 := pow256_le hl
  rw [Int.pow_one] at h2
  omega
attribute [local irreducible] rd rdV
section
variable (w : World) (g ga oa L C p n : Nat) (xs : List Int) (hr : w.heap[g]? = some (.cells ⟨[.slice (some ⟨ga, oa + p, none⟩) (L - p) (C - p)]⟩ 94 (0, 0)))
  (hn : p + n ≤ L) (hc : L ≤ C) (hm : C ≤ 9223372036854775807) (hs : Sl byteCells 1 w (some ⟨ga, oa, none⟩) xs) (hx : ∀ x ∈ xs, U8 x) (hl : xs.length = L) (hne : ga ≠ g) (hlt : ga < w.heap.size)
theorem Sl.at_ {w : World} {ga oa C p : Nat} {xs : List Int} (hs : Sl byteCells 1 w (some ⟨ga, oa, none⟩) xs) (hp : p ≤ xs.length) (hc : xs.length ≤ C) (h : p < C) : Sl byteCells 1 w (some ⟨ga, oa + p, none⟩) (xs.drop p) := by
  have := hs.drop_ p C hp hc
  rw [show cutAt (some ⟨ga, oa, none⟩) C p 1 = cutA (some ⟨ga, oa, none⟩) C p 1 from rfl, cutA_mid h, Nat.mul_one] at this
  exact this
include hr hn hc hm hs hx hl hne hlt
theorem number_at (hn8 : n ≤ 8) (hpc : p + n < C) :
    Calls Try.prog 53 #[.pointer (some ⟨g, 0, none⟩), .int .i64 n] w
      (RV fun v w' => v = .int .u64 (rd ((xs.drop p).take n)) ∧ At w [g] [bx g 94 [.slice (some ⟨ga, oa + (p + n), none⟩) (L - (p + n)) (C - (p + n))]] w') := by
  have h := number_any w g ga (oa + p) (L - p) (C - p) n (xs.drop p) hr (by omega) (by omega) (by omega) (hs.at_ (C := C) (by omega) (by omega) (by omega)) (fun x h => hx x (List.mem_of_mem_drop h)) (by simp; omega) hn8 hne hlt
  rw [cutA_mid (by omega), Nat.mul_one, Nat.add_assoc, Nat.sub_sub, Nat.sub_sub] at h
  exact h
theorem value_at (hn8 : n = 32) (hpc : p + n < C) :
    Calls Try.prog 55 #[.pointer (some ⟨g, 0, none⟩)] w
      (RV fun v w' => v = .agg #[Value.bool (rdV ((xs.drop p).take n)).sym, .bool (rdV ((xs.drop p).take n)).sealed, .int .u64 (rdV ((xs.drop p).take n)).b0, .int .u64 (rdV ((xs.drop p).take n)).b1, .int .u64 (rdV ((xs.drop p).take n)).c0, .int .u64 (rdV ((xs.drop p).take n)).c1, .int .u64 (rdV ((xs.drop p).take n)).t0, .int .u64 (rdV ((xs.drop p).take n)).t1, .int .i64 (rdV ((xs.drop p).take n)).t] ∧ At w [g] [bx g 94 [.slice (some ⟨ga, oa + (p + n), none⟩) (L - (p + n)) (C - (p + n))]] w') := by
  subst hn8
  have h := value_any w g ga (oa + p) (L - p) (C - p) (xs.drop p) hr (by omega) (by omega) (by omega) (hs.at_ (C := C) (by omega) (by omega) (by omega)) (fun x h => hx x (List.mem_of_mem_drop h)) (by simp; omega) hne hlt
  rw [cutA_mid (by omega), Nat.mul_one, Nat.add_assoc, Nat.sub_sub, Nat.sub_sub] at h
  exact h
omit hs hx hl hne hlt in
theorem cut_at (hpc : p + n < C) :
    Calls Try.prog 54 #[.pointer (some ⟨g, 0, none⟩), .int .i64 n] w
      (RV fun v w' => v = .slice (some ⟨ga, oa + p, none⟩) n n ∧ At w [g] [bx g 94 [.slice (some ⟨ga, oa + (p + n), none⟩) (L - (p + n)) (C - (p + n))]] w') := by
  have h := cut_any w g ga (oa + p) (L - p) (C - p) n hr (by omega) (by omega) (by omega)
  rw [cutA_mid (by omega), Nat.mul_one, Nat.add_assoc, Nat.sub_sub, Nat.sub_sub] at h
  exact h
end
attribute [local irreducible] SO SK SD SDA Rt bx ow Qt Ef
set_option maxHeartbeats 2000000
set_option maxRecDepth 100000
theorem bytesEqual_any (w : World) (A B : Option Addr) (c d : Nat) (xs ys : List Int) (hl : Sl byteCells 1 w A xs) (hl2 : Sl byteCells 1 w B ys) (hx : ∀ x ∈ xs, U8 x) (hy : ∀ x ∈ ys, U8 x) :
    Calls Try.prog 56 #[.slice A xs.length c, .slice B ys.length d] w fun e w' => e = .returned (.bool (decide (xs = ys))) ∧ w' = w := by
  refine C.go cc56 rfl rfl ?_
  have hA := At.start w
  (repeat' (first | refine stp ?_ | refine stq ?_ | (refine st3 ?_; clear hA; intro w' hA) | (refine st4 ?_; clear hA; intro w' hA) | (refine st2 ?_ ?_ <;> intro hc) | fail))
  (refine C.ret [_] ⟨rfl, trivial⟩ ?_)
  exact ⟨by rw [← str_beq hx hy]; rfl, rfl⟩
theorem octH_u8F (x : Hdr) : ∀ y ∈ octH x, U8 y := by
  intro y hy
  simp only [octH, List.mem_append, List.mem_cons, List.not_mem_nil, or_false, List.mem_flatMap, octP] at hy
  rcases hy with (((hy | hy | hy) | hy) | hy) | ⟨p, _, hy | hy | hy⟩ | hy
  · subst hy; unfold U8; omega
  · subst hy; unfold U8; omega
  · subst hy; unfold U8; omega
  · exact le_u8 _ _ y hy
  · exact le_u8 _ _ y hy
  · exact le_u8 _ _ y hy
  · exact le_u8 _ _ y hy
  · exact octS_u8 _ y hy
  · exact octS_u8 _ y hy
attribute [local irreducible] headCheck octH rdP rdPs
/-- What From leaves. -/
def FromPost (w : World) (xs : List Int) (e : Ending) (w' : World) : Prop :=
  Below w.heap.size w w' ∧ (fromE xs = 0 → ∃ v, e = .returned (.tuple #[.agg #[.int .i64 (rdH xs).sc, .int .i64 (rdH xs).h, .int .i64 (rdH xs).ep, v, .bool (rdH xs).pay.sym, .bool (rdH xs).pay.sealed, .int .u64 (rdH xs).pay.b0, .int .u64 (rdH xs).pay.b1, .int .u64 (rdH xs).pay.c0, .int .u64 (rdH xs).pay.c1, .int .u64 (rdH xs).pay.t0, .int .u64 (rdH xs).pay.t1, .int .i64 (rdH xs).pay.t], .int .i64 0]) ∧ Own Part.cells 11 41 w' w.heap.size v (rdH xs).l)
   ∧ (fromE xs ≠ 0 → e = .returned (.tuple #[.agg #[.int .i64 0, .int .i64 0, .int .i64 0, .slice none 0 0, .bool false, .bool false, .int .u64 0, .int .u64 0, .int .u64 0, .int .u64 0, .int .u64 0, .int .u64 0, .int .i64 0], .int .i64 (fromE xs)]))
theorem headFrom_any (w : World) (A : Option Addr) (cap : Nat) (xs : List Int) (hl : Sl byteCells 1 w A xs) (hx : ∀ x ∈ xs, U8 x) (hc : xs.length ≤ cap) (hm : cap ≤ 9223372036854775807) :
    Calls Try.prog 19 #[.slice A xs.length cap] w (FromPost w xs) := by
  (have hA := At.start w; refine C.go cc19 rfl rfl ?_)
  (repeat' (first | refine stp ?_ | refine stq ?_ | (refine st3 ?_; clear hA; intro w' hA) | (refine st4 ?_; clear hA; intro w' hA) | (refine st2 ?_ ?_ <;> intro hc) | fail))
  (refine O.new hA ?_; clear hA; intro res w' hA)
  by_cases c1 : 2097152 < xs.length
  · have hE : fromE xs = 3 := by unfold fromE; rw [if_pos c1]
    (repeat' (first | refine stp ?_ | refine stq ?_ | (refine st3 ?_; clear hA; intro w' hA) | (refine st4 ?_; clear hA; intro w' hA) | (refine st2 ?_ ?_ <;> intro hc) | fail))
    (refine C.ret [_, _] ⟨⟨_, 0, rfl, LdP.bx hA (i := 0) rfl rfl⟩, rfl, trivial⟩ ?_)
    exact ⟨hA.toBelow, fun h => absurd (hE ▸ h) (by decide), fun _ => by rw [hE]; rfl⟩
  by_cases c2 : xs.length < 47
  · have hE : fromE xs = 2 := by unfold fromE; rw [if_neg c1, if_pos (.inl c2)]
    (repeat' (first | refine stp ?_ | refine stq ?_ | (refine st3 ?_; clear hA; intro w' hA) | (refine st4 ?_; clear hA; intro w' hA) | (refine st2 ?_ ?_ <;> intro hc) | fail))
    (refine C.ret [_, _] ⟨⟨_, 0, rfl, LdP.bx hA (i := 0) rfl rfl⟩, rfl, trivial⟩ ?_)
    exact ⟨hA.toBelow, fun h => absurd (hE ▸ h) (by decide), fun _ => by rw [hE]; rfl⟩
  by_cases c3 : (xs.length - 47) % 48 ≠ 0
  · have hE : fromE xs = 2 := by unfold fromE; rw [if_neg c1, if_pos (.inr c3)]
    (repeat' (first | refine stp ?_ | refine stq ?_ | (refine st3 ?_; clear hA; intro w' hA) | (refine st4 ?_; clear hA; intro w' hA) | (refine st2 ?_ ?_ <;> intro hc) | fail))
    (refine C.ret [_, _] ⟨⟨_, 0, rfl, LdP.bx hA (i := 0) rfl rfl⟩, rfl, trivial⟩ ?_)
    exact ⟨hA.toBelow, fun h => absurd (hE ▸ h) (by decide), fun _ => by rw [hE]; rfl⟩
  obtain ⟨k, hk⟩ : ∃ k, xs.length = 47 + 48 * k := ⟨(xs.length - 47) / 48, by omega⟩
  have hE : fromE xs = if headCheck (rdH xs) = 0 ∧ octH (rdH xs) = xs then 0 else 2 := by unfold fromE; rw [if_neg c1, if_neg (by simp [c2]; omega)]
  obtain ⟨ga, oa, rfl, hlt, _⟩ := hl.cells (i := 0) (x := xs[0]'(by omega)) (List.getElem?_eq_getElem (by omega))
  (repeat' (first | refine stp ?_ | refine stq ?_ | (refine st3 ?_; clear hA; intro w' hA) | (refine st4 ?_; clear hA; intro w' hA) | (refine st2 ?_ ?_ <;> intro hc) | fail))
  refine O.q (Qt.slc (l := 1) (h := xs.length) (m := cap) rfl rfl rfl rfl rfl rfl rfl (by omega) (by omega) (by omega) (by simp)) ?_
  rw [cutA_mid (by omega), Nat.mul_one]
  (repeat' (first | refine stp ?_ | refine stq ?_ | (refine st3 ?_; clear hA; intro w' hA) | (refine st4 ?_; clear hA; intro w' hA) | (refine st2 ?_ ?_ <;> intro hc) | fail))
  (refine O.box hA rfl rfl ?_; clear hA; intro g w' hA)
  (repeat' (first | refine stp ?_ | refine stq ?_ | (refine st3 ?_; clear hA; intro w' hA) | (refine st4 ?_; clear hA; intro w' hA) | (refine st2 ?_ ?_ <;> intro hc) | fail))
  have b1 := rd1 (l := (xs.drop 1).take 1) (fun x h => hx x (List.mem_of_mem_drop (List.mem_of_mem_take h))) (by simp; omega)
  have b2 := rd1 (l := (xs.drop 2).take 1) (fun x h => hx x (List.mem_of_mem_drop (List.mem_of_mem_take h))) (by simp; omega)
  (refine O.c rfl ((number_at _ g ga oa xs.length cap 1 1 xs (hA.heap_bx (i := 0) rfl) (by omega) hc hm (hA.has.sl_old (by simp) hl) hx rfl (hA.ne_old (i := 0) rfl hlt) (Nat.lt_of_lt_of_le hlt hA.has.size) (by omega) (by omega)).mono ?_); rintro en wq ⟨v, rfl, rfl, hB⟩; refine ⟨_, rfl, ?_⟩; replace hA := hA.inner (i := 0) rfl rfl hB; clear hB)
  (repeat' (first | refine stp ?_ | refine stq ?_ | (refine st3 ?_; clear hA; intro w' hA) | (refine st4 ?_; clear hA; intro w' hA) | (refine st2 ?_ ?_ <;> intro hc) | fail))
  (refine O.c rfl ((number_at _ g ga oa xs.length cap 2 1 xs (hA.heap_bx (i := 0) rfl) (by omega) hc hm (hA.has.sl_old (by simp) hl) hx rfl (hA.ne_old (i := 0) rfl hlt) (Nat.lt_of_lt_of_le hlt hA.has.size) (by omega) (by omega)).mono ?_); rintro en wq ⟨v, rfl, rfl, hB⟩; refine ⟨_, rfl, ?_⟩; replace hA := hA.inner (i := 0) rfl rfl hB; clear hB)
  (repeat' (first | refine stp ?_ | refine stq ?_ | (refine st3 ?_; clear hA; intro w' hA) | (refine st4 ?_; clear hA; intro w' hA) | (refine st2 ?_ ?_ <;> intro hc) | fail))
  (refine O.c rfl ((number_at _ g ga oa xs.length cap 3 8 xs (hA.heap_bx (i := 0) rfl) (by omega) hc hm (hA.has.sl_old (by simp) hl) hx rfl (hA.ne_old (i := 0) rfl hlt) (Nat.lt_of_lt_of_le hlt hA.has.size) (by omega) (by omega)).mono ?_); rintro en wq ⟨v, rfl, rfl, hB⟩; refine ⟨_, rfl, ?_⟩; replace hA := hA.inner (i := 0) rfl rfl hB; clear hB)
  (repeat' (first | refine stp ?_ | refine stq ?_ | (refine st3 ?_; clear hA; intro w' hA) | (refine st4 ?_; clear hA; intro w' hA) | (refine st2 ?_ ?_ <;> intro hc) | fail))
  (refine O.new hA ?_; clear hA; intro x w' hA)
  (repeat' (first | refine stp ?_ | refine stq ?_ | (refine st3 ?_; clear hA; intro w' hA) | (refine st4 ?_; clear hA; intro w' hA) | (refine st2 ?_ ?_ <;> intro hc) | fail))
  (refine O.c rfl ((cut_at _ g ga oa xs.length cap 11 4 (hA.heap_bx (i := 1) rfl) (by omega) hc hm (by omega)).mono ?_); rintro en wq ⟨v, rfl, rfl, hB⟩; refine ⟨_, rfl, ?_⟩; replace hA := hA.inner (i := 1) rfl rfl hB; clear hB)
  replace hA := hA.addNil Part.cells 11 41
  (repeat' (first | refine stp ?_ | refine stq ?_ | (refine st3 ?_; clear hA; intro w' hA) | (refine st4 ?_; clear hA; intro w' hA) | (refine st2 ?_ ?_ <;> intro hc) | fail))
  refine K.loop (fun _ : Nat × Option Addr × Nat => [(0, .slice (some ⟨ga, oa, none⟩) xs.length cap), (2, .pointer (some ⟨res, 0, none⟩)), (4, .pointer (some ⟨g, 0, none⟩)), (5, .pointer (some ⟨x, 0, none⟩))])
    (fun s w' => s.1 ≤ k ∧ At w [] [ow Part.cells 11 41 (.slice s.2.1 (rdPs s.1 (xs.drop 15)).length s.2.2) (rdPs s.1 (xs.drop 15)), bx x 31 [.int .i64 (rd ((xs.drop 1).take 1)), .int .i64 (rd ((xs.drop 2).take 1)), .int .i64 (IntKind.i64.wrap (rd ((xs.drop 3).take 8))), .slice s.2.1 (rdPs s.1 (xs.drop 15)).length s.2.2, .bool false, .bool false, .int .u64 0, .int .u64 0, .int .u64 0, .int .u64 0, .int .u64 0, .int .u64 0, .int .i64 0],
      bx g 94 [.slice (some ⟨ga, oa + (15 + 48 * s.1), none⟩) (xs.length - (15 + 48 * s.1)) (cap - (15 + 48 * s.1))], bx res 31 [.int .i64 0, .int .i64 0, .int .i64 0, .slice none 0 0, .bool false, .bool false, .int .u64 0, .int .u64 0, .int .u64 0, .int .u64 0, .int .u64 0, .int .u64 0, .int .i64 0]] w') (fun s => k - s.1) (0, none, 0) ?_ ⟨Nat.zero_le _, by unfold rdPs; exact hA⟩ ?_
  · exact Le.cons rfl (Le.cons rfl (Le.cons rfl (Le.cons rfl (Le.nil _))))
  clear hA
  rintro ⟨j, A', c'⟩ w' ⟨hj, hA⟩
  dsimp only at hj hA ⊢
  have hjl := rdPs_length j (xs.drop 15)
  by_cases hjk : j < k
  · (repeat' (first | refine stp ?_ | refine stq ?_ | (refine st3 ?_; clear hA; intro w' hA) | (refine st4 ?_; clear hA; intro w' hA) | (refine st2 ?_ ?_ <;> intro hc) | fail))
    (refine O.c rfl ((number_at _ g ga oa xs.length cap (15 + 48 * j) 8 xs (hA.heap_bx (i := 2) rfl) (by omega) hc hm (hA.has.sl_old (by simp) hl) hx rfl (hA.ne_old (i := 2) rfl hlt) (Nat.lt_of_lt_of_le hlt hA.has.size) (by omega) (by omega)).mono ?_); rintro en wq ⟨v, rfl, rfl, hB⟩; refine ⟨_, rfl, ?_⟩; replace hA := hA.inner (i := 2) rfl rfl hB; clear hB)
    (repeat' (first | refine stp ?_ | refine stq ?_ | (refine st3 ?_; clear hA; intro w' hA) | (refine st4 ?_; clear hA; intro w' hA) | (refine st2 ?_ ?_ <;> intro hc) | fail))
    (refine O.c rfl ((number_at _ g ga oa xs.length cap (15 + 48 * j + 8) 8 xs (hA.heap_bx (i := 2) rfl) (by omega) hc hm (hA.has.sl_old (by simp) hl) hx rfl (hA.ne_old (i := 2) rfl hlt) (Nat.lt_of_lt_of_le hlt hA.has.size) (by omega) (by omega)).mono ?_); rintro en wq ⟨v, rfl, rfl, hB⟩; refine ⟨_, rfl, ?_⟩; replace hA := hA.inner (i := 2) rfl rfl hB; clear hB)
    (repeat' (first | refine stp ?_ | refine stq ?_ | (refine st3 ?_; clear hA; intro w' hA) | (refine st4 ?_; clear hA; intro w' hA) | (refine st2 ?_ ?_ <;> intro hc) | fail))
    (refine O.new hA ?_; clear hA; intro pb w' hA)
    (repeat' (first | refine stp ?_ | refine stq ?_ | (refine st3 ?_; clear hA; intro w' hA) | (refine st4 ?_; clear hA; intro w' hA) | (refine st2 ?_ ?_ <;> intro hc) | fail))
    (refine O.c rfl ((value_at _ g ga oa xs.length cap (15 + 48 * j + 8 + 8) 32 xs (hA.heap_bx (i := 3) rfl) (by omega) hc hm (hA.has.sl_old (by simp) hl) hx rfl (hA.ne_old (i := 3) rfl hlt) (Nat.lt_of_lt_of_le hlt hA.has.size) rfl (by omega)).mono ?_); rintro en wq ⟨v, rfl, rfl, hB⟩; refine ⟨_, rfl, ?_⟩; replace hA := hA.inner (i := 3) rfl rfl hB; clear hB)
    (repeat' (first | refine stp ?_ | refine stq ?_ | (refine st3 ?_; clear hA; intro w' hA) | (refine st4 ?_; clear hA; intro w' hA) | (refine st2 ?_ ?_ <;> intro hc) | fail))
    (refine O.bsl hA rfl rfl ?_; clear hA; intro q w' hA)
    have hcm := hA.len_ow (i := 2) rfl
    refine O.ef ?_
    refine Ef.app1 (i := 2) (j := 0) (rdP ((xs.drop 15).drop (48 * j))) encPart hA rfl rfl rfl rfl ?_ rfl (by omega) (by omega) (fun v' => rfl) ?_
    · unfold rdP; simp only [Part.cells, List.drop_drop]
    clear hA; intro v' w' hA
    rw [← rdPs_succ] at hA
    obtain ⟨A2, c2, rfl, hc2, hm2⟩ := hA.form (i := 2) encPart rfl
    (repeat' (first | refine stp ?_ | refine stq ?_ | (refine st3 ?_; clear hA; intro w' hA) | (refine st4 ?_; clear hA; intro w' hA) | (refine st2 ?_ ?_ <;> intro hc) | fail))
    replace hA := hA.keep [0, 0, 1, 1, 1, 1] rfl
    refine K.lpend ⟨(j + 1, A2, c2), ?_, ⟨hjk, ?_⟩, ?_⟩
    · exact Le.cons rfl (Le.cons rfl (Le.cons rfl (Le.cons rfl (Le.nil _))))
    · dsimp only
      rw [show 15 + 48 * (j + 1) = 15 + 48 * j + 8 + 8 + 32 by omega]
      exact hA
    · dsimp only; omega
  · have : j = k := by omega
    subst this
    have hH := rdH_eq hk
    rw [hH] at hE
    (repeat' (first | refine stp ?_ | refine stq ?_ | (refine st3 ?_; clear hA; intro w' hA) | (refine st4 ?_; clear hA; intro w' hA) | (refine st2 ?_ ?_ <;> intro hc) | fail))
    (refine O.c rfl ((value_any _ g ga (oa + (15 + 48 * j)) (xs.length - (15 + 48 * j)) (cap - (15 + 48 * j)) (xs.drop (15 + 48 * j)) (hA.heap_bx (i := 2) rfl) (by omega) (by omega) (by omega) ((hA.has.sl_old (by simp) hl).at_ (C := cap) (by omega) hc (by omega)) (fun x h => hx x (List.mem_of_mem_drop h)) (by simp) (hA.ne_old (i := 2) rfl hlt) (Nat.lt_of_lt_of_le hlt hA.has.size)).mono ?_); rintro en wq ⟨v, rfl, rfl, hB⟩; refine ⟨_, rfl, ?_⟩; replace hA := hA.inner (i := 2) rfl rfl hB; clear hB)
    (repeat' (first | refine stp ?_ | refine stq ?_ | (refine st3 ?_; clear hA; intro w' hA) | (refine st4 ?_; clear hA; intro w' hA) | (refine st2 ?_ ?_ <;> intro hc) | fail))
    have hs := hA.has.slv encPart (i := 0) rfl
    have hcm := hA.len_ow (i := 0) rfl
    have hok : ∀ p ∈ rdPs j (xs.drop 15), p.ok := rdPs_ok j fun x h => hx x (List.mem_of_mem_drop h)
    by_cases h0 : headCheck ⟨rd ((xs.drop 1).take 1), rd ((xs.drop 2).take 1), IntKind.i64.wrap (rd ((xs.drop 3).take 8)), rdPs j (xs.drop 15), rdV ((xs.drop (15 + 48 * j)).take 32)⟩ = 0
    · (refine O.c rfl ((headBytes_good _ _ _ _ _ (rdPs j (xs.drop 15)) (rdV ((xs.drop (15 + 48 * j)).take 32)) _ hs.1 hok hs.2.2 hcm h0).mono ?_); rintro en w' ⟨v3, rfl, ho, hb⟩; refine ⟨_, rfl, ?_⟩; replace hA := hA.addOwn hb ho; clear hb ho)
      obtain ⟨A3, c3, rfl, hc3, hm3⟩ := hA.form (i := 0) encByte rfl
      (repeat' (first | refine stp ?_ | refine stq ?_ | (refine st3 ?_; clear hA; intro w' hA) | (refine st4 ?_; clear hA; intro w' hA) | (refine st2 ?_ ?_ <;> intro hc) | fail))
      (refine O.c rfl ((bytesEqual_any _ A3 (some ⟨ga, oa, none⟩) c3 cap _ xs (hA.has.slv encByte (i := 0) rfl).1 (hA.has.sl_old (by simp) hl) (octH_u8F _) hx).mono ?_); rintro en w' ⟨rfl, rfl⟩; refine ⟨_, rfl, ?_⟩)
      by_cases he : octH ⟨rd ((xs.drop 1).take 1), rd ((xs.drop 2).take 1), IntKind.i64.wrap (rd ((xs.drop 3).take 8)), rdPs j (xs.drop 15), rdV ((xs.drop (15 + 48 * j)).take 32)⟩ = xs
      · rw [decide_eq_true he]
        rw [if_pos ⟨h0, he⟩] at hE
        (repeat' (first | refine stp ?_ | refine stq ?_ | (refine st3 ?_; clear hA; intro w' hA) | (refine st4 ?_; clear hA; intro w' hA) | (refine st2 ?_ ?_ <;> intro hc) | fail))
        (refine C.ret [_, _] ⟨⟨_, 0, rfl, LdP.bx hA (i := 4) rfl rfl⟩, rfl, trivial⟩ ?_)
        refine ⟨hA.toBelow, fun _ => ?_, fun h => absurd hE h⟩
        rw [hH]
        exact ⟨_, rfl, hA.own (i := 1) rfl⟩
      · rw [decide_eq_false he]
        rw [if_neg (fun h => he h.2)] at hE
        (repeat' (first | refine stp ?_ | refine stq ?_ | (refine st3 ?_; clear hA; intro w' hA) | (refine st4 ?_; clear hA; intro w' hA) | (refine st2 ?_ ?_ <;> intro hc) | fail))
        (refine C.ret [_, _] ⟨⟨_, 0, rfl, LdP.bx hA (i := 4) rfl rfl⟩, rfl, trivial⟩ ?_)
        exact ⟨hA.toBelow, fun h => absurd (hE ▸ h) (by decide), fun _ => by rw [hE]; rfl⟩
    · (refine O.c rfl ((headBytes_bad _ _ _ _ _ (rdPs j (xs.drop 15)) (rdV ((xs.drop (15 + 48 * j)).take 32)) _ hs.1 hok hs.2.2 hcm h0).mono ?_); rintro en w' ⟨rfl, hb⟩; refine ⟨_, rfl, ?_⟩; replace hA := hA.below hb; clear hb)
      rw [if_neg (fun h => h0 h.1)] at hE
      (repeat' (first | refine stp ?_ | refine stq ?_ | (refine st3 ?_; clear hA; intro w' hA) | (refine st4 ?_; clear hA; intro w' hA) | (refine st2 ?_ ?_ <;> intro hc) | fail))
      (refine C.ret [_, _] ⟨⟨_, 0, rfl, LdP.bx hA (i := 3) rfl rfl⟩, rfl, trivial⟩ ?_)
      exact ⟨hA.toBelow, fun h => absurd (hE ▸ h) (by decide), fun _ => by rw [hE]; rfl⟩
end Go.Proofs.Ytmajepinbldneaa
