/- The walks of mix.read, mix.Of, seal.Of, and of the reader's cut, number and value. -/
import Derived.Test.YtmajepinbldneaaScFrom
import Derived.Test.YtmajepinbldneaaEngK
import Derived.Test.YtmajepinbldneaaRdP
namespace Go.Proofs.Ytmajepinbldneaa
set_option linter.unusedVariables false
set_option linter.unusedSimpArgs false
open Go.RowKit
attribute [local irreducible] rd
attribute [local irreducible] SO SK SD SDA Rt bx ow Qt Ef
set_option maxHeartbeats 2000000
set_option maxRecDepth 100000
theorem cut_any (w : World) (g ga oa len cap n : Nat) (hr : w.heap[g]? = some (.cells ⟨[.slice (some ⟨ga, oa, none⟩) len cap]⟩ 94 (0, 0))) (hn : n ≤ len) (hc : len ≤ cap) (hm : cap ≤ 9223372036854775807) :
    Calls Try.prog 54 #[.pointer (some ⟨g, 0, none⟩), .int .i64 n] w
      (RV fun v w' => v = .slice (some ⟨ga, oa, none⟩) n n ∧ At w [g] [bx g 94 [.slice (cutA (some ⟨ga, oa, none⟩) cap n 1) (len - n) (cap - n)]] w') := by
  have hA : At w [g] [bx g 94 [.slice (some ⟨ga, oa, none⟩) len cap]] w := At.startX w (bx g 94 [.slice (some ⟨ga, oa, none⟩) len cap]) g (by unfold bx; rfl) (Array.getElem?_eq_some_iff.1 hr).1 (bx_loc _ _ _) (by unfold bx; exact hr)
  refine C.go cc54 rfl rfl ?_
  (repeat' (first | refine stp ?_ | refine stq ?_ | (refine st3 ?_; clear hA; intro w' hA) | (refine st4 ?_; clear hA; intro w' hA) | (refine st2 ?_ ?_ <;> intro hc) | fail))
  refine H.q (Qt.slc (l := 0) (h := n) (m := n) rfl rfl rfl rfl rfl rfl rfl (by omega) (by omega) (by omega) (by simp)) ?_
  (repeat' (first | refine stp ?_ | refine stq ?_ | (refine st3 ?_; clear hA; intro w' hA) | (refine st4 ?_; clear hA; intro w' hA) | (refine st2 ?_ ?_ <;> intro hc) | fail))
  refine H.q (Qt.slc (l := n) (h := len) (m := cap) rfl rfl rfl rfl rfl rfl rfl (by omega) (by omega) (by omega) (by simp)) ?_
  (repeat' (first | refine stp ?_ | refine stq ?_ | (refine st3 ?_; clear hA; intro w' hA) | (refine st4 ?_; clear hA; intro w' hA) | (refine st2 ?_ ?_ <;> intro hc) | fail))
  (refine C.ret [_] ⟨rfl, trivial⟩ ?_)
  refine ⟨_, rfl, ?_, hA⟩
  rw [cutA_zero]; rfl
/-- A call that writes the reader. -/
theorem number_any (w : World) (g ga oa len cap n : Nat) (xs : List Int) (hr : w.heap[g]? = some (.cells ⟨[.slice (some ⟨ga, oa, none⟩) len cap]⟩ 94 (0, 0))) (hn : n ≤ len) (hc : len ≤ cap) (hm : cap ≤ 9223372036854775807)
    (hs : Sl byteCells 1 w (some ⟨ga, oa, none⟩) xs) (hx : ∀ x ∈ xs, U8 x) (hl : xs.length = len) (hn8 : n ≤ 8) (hne : ga ≠ g) (hlt : ga < w.heap.size) :
    Calls Try.prog 53 #[.pointer (some ⟨g, 0, none⟩), .int .i64 n] w
      (RV fun v w' => v = .int .u64 (rd (xs.take n)) ∧ At w [g] [bx g 94 [.slice (cutA (some ⟨ga, oa, none⟩) cap n 1) (len - n) (cap - n)]] w') := by
  have hA : At w [g] [bx g 94 [.slice (some ⟨ga, oa, none⟩) len cap]] w := At.startX w (bx g 94 [.slice (some ⟨ga, oa, none⟩) len cap]) g (by unfold bx; rfl) (Array.getElem?_eq_some_iff.1 hr).1 (bx_loc _ _ _) (by unfold bx; exact hr)
  refine C.go cc53 rfl rfl ?_
  (repeat' (first | refine stp ?_ | refine stq ?_ | (refine st3 ?_; clear hA; intro w' hA) | (refine st4 ?_; clear hA; intro w' hA) | (refine st2 ?_ ?_ <;> intro hc) | fail))
  refine O.c rfl ((cut_any w g ga oa len cap n hr hn hc hm).mono ?_)
  rintro en w' ⟨v, rfl, rfl, hA⟩
  refine ⟨_, rfl, ?_⟩
  (repeat' (first | refine stp ?_ | refine stq ?_ | (refine st3 ?_; clear hA; intro w' hA) | (refine st4 ?_; clear hA; intro w' hA) | (refine st2 ?_ ?_ <;> intro hc) | fail))
  refine K.loop (fun i : Nat => [(4, .int .u64 (rd (xs.take i))), (9, .slice (some ⟨ga, oa, none⟩) n n), (10, .int .i64 n), (11, .int .i64 i)]) (fun i w' => i ≤ n ∧ At w [g] [bx g 94 [.slice (cutA (some ⟨ga, oa, none⟩) cap n 1) (len - n) (cap - n)]] w') (fun i => n - i) 0 ?_ ⟨Nat.zero_le _, hA⟩ ?_
  · exact Le.cons' rfl (by simp [rd]) (Le.cons rfl (Le.cons rfl (Le.cons rfl (Le.nil _))))
  clear hA
  rintro i w' ⟨hi, hA⟩
  by_cases hin : i < n
  · obtain ⟨c, hc1⟩ : ∃ c, xs[i]? = some c := ⟨_, List.getElem?_eq_getElem (by omega)⟩
    have hc2 : U8 c := hx c (List.mem_of_getElem? hc1)
    have hc3 := hc2
    unfold U8 at hc3
    have hcl : Cl w ga (oa + i * 1) (byteCells c) := hs.cl hc1
    (repeat' (first | refine stp ?_ | refine stq ?_ | (refine st3 ?_; clear hA; intro w' hA) | (refine st4 ?_; clear hA; intro w' hA) | (refine st2 ?_ ?_ <;> intro hc) | fail))
    refine O.r hA (Qt.ldCl0 rfl hcl hlt (by simp; exact hne) rfl) ?_
    (repeat' (first | refine stp ?_ | refine stq ?_ | (refine st3 ?_; clear hA; intro w' hA) | (refine st4 ?_; clear hA; intro w' hA) | (refine st2 ?_ ?_ <;> intro hc) | fail))
    rw [rd_take_succ hx hc1 (by omega) rfl]
    (repeat' (first | refine stp ?_ | refine stq ?_ | (refine st3 ?_; clear hA; intro w' hA) | (refine st4 ?_; clear hA; intro w' hA) | (refine st2 ?_ ?_ <;> intro hc) | fail))
    refine K.lpend ⟨i + 1, ?_, ⟨hin, hA⟩, by omega⟩
    exact Le.cons rfl (Le.cons rfl (Le.cons rfl (Le.cons' rfl (by simp) (Le.nil _))))
  · have : i = n := by omega
    subst this
    (repeat' (first | refine stp ?_ | refine stq ?_ | (refine st3 ?_; clear hA; intro w' hA) | (refine st4 ?_; clear hA; intro w' hA) | (refine st2 ?_ ?_ <;> intro hc) | fail))
    (refine C.ret [_] ⟨rfl, trivial⟩ ?_)
    exact ⟨_, rfl, rfl, hA⟩
theorem mixRead_any (w : World) (A : Option Addr) (cap : Nat) (xs : List Int) (hl : Sl byteCells 1 w A xs) (hx : ∀ x ∈ xs, U8 x) (hn : xs.length ≤ 16) (hc : xs.length ≤ cap) :
    Calls Try.prog 119 #[.slice A xs.length cap] w fun e w' => e = .returned (.agg #[.int .u64 (rd (xs.take 8)), .int .u64 (rd ((xs.drop 8).take 8))]) ∧ Below w.heap.size w w' := by
  (have hA := At.start w; refine C.go cc119 rfl rfl ?_)
  (repeat' (first | refine stp ?_ | refine stq ?_ | (refine st3 ?_; clear hA; intro w' hA) | (refine st4 ?_; clear hA; intro w' hA) | (refine st2 ?_ ?_ <;> intro hc) | fail))
  (refine O.new hA ?_; clear hA; intro b w' hA)
  (repeat' (first | refine stp ?_ | refine stq ?_ | (refine st3 ?_; clear hA; intro w' hA) | (refine st4 ?_; clear hA; intro w' hA) | (refine st2 ?_ ?_ <;> intro hc) | fail))
  refine K.loop (fun i : Nat => [(2, .pointer (some ⟨b, 0, none⟩)), (5, .slice A xs.length cap), (6, .int .i64 xs.length), (7, .int .i64 i)]) (fun i w' => i ≤ xs.length ∧ At w [] [bx b 25 [.int .u64 (rd (xs.take (min i 8))), .int .u64 (rd ((xs.drop 8).take (i - 8)))]] w') (fun i => xs.length - i) 0 ?_ ⟨Nat.zero_le _, ?_⟩ ?_
  · exact Le.cons rfl (Le.cons rfl (Le.cons rfl (Le.cons rfl (Le.nil _))))
  · simpa [rd] using hA
  clear hA
  rintro i w' ⟨hi, hA⟩
  by_cases hin : i < xs.length
  · obtain ⟨c, hc1⟩ : ∃ c, xs[i]? = some c := ⟨_, List.getElem?_eq_getElem hin⟩
    have hc2 : U8 c := hx c (List.mem_of_getElem? hc1)
    have hc3 := hc2
    unfold U8 at hc3
    obtain ⟨ga, oa, rfl, hlt, _⟩ := hl.cells hc1
    have hcl : Cl w ga (oa + i * 1) (byteCells c) := hl.cl hc1
    (repeat' (first | refine stp ?_ | refine stq ?_ | (refine st3 ?_; clear hA; intro w' hA) | (refine st4 ?_; clear hA; intro w' hA) | (refine st2 ?_ ?_ <;> intro hc) | fail))
    by_cases h8 : i < 8
    · have m1 : min i 8 = i := by omega
      have m2 : min (i + 1) 8 = i + 1 := by omega
      have m3 : i - 8 = 0 := by omega
      have m4 : i + 1 - 8 = 0 := by omega
      refine H.q (Qt.ata (kk := 0) rfl rfl (by omega) (by omega)) ?_
      (repeat' (first | refine stp ?_ | refine stq ?_ | (refine st3 ?_; clear hA; intro w' hA) | (refine st4 ?_; clear hA; intro w' hA) | (refine st2 ?_ ?_ <;> intro hc) | fail))
      refine H.q (Qt.ata (kk := 0) rfl rfl (by omega) (by omega)) ?_
      (repeat' (first | refine stp ?_ | refine stq ?_ | (refine st3 ?_; clear hA; intro w' hA) | (refine st4 ?_; clear hA; intro w' hA) | (refine st2 ?_ ?_ <;> intro hc) | fail))
      rw [m1, m3, rd_take_succ hx hc1 h8 (by omega)] at hA
      refine K.lpend ⟨i + 1, ?_, ⟨hin, by rw [m2, m4]; exact hA⟩, by omega⟩
      exact Le.cons rfl (Le.cons rfl (Le.cons rfl (Le.cons' rfl (by simp) (Le.nil _))))
    · have m1 : min i 8 = 8 := by omega
      have m2 : min (i + 1) 8 = 8 := by omega
      have m4 : i + 1 - 8 = i - 8 + 1 := by omega
      have hc5 : (xs.drop 8)[i - 8]? = some c := by rw [List.getElem?_drop, ← hc1]; congr 1; omega
      refine H.q (Qt.ata (kk := 1) rfl rfl (by omega) (by omega)) ?_
      (repeat' (first | refine stp ?_ | refine stq ?_ | (refine st3 ?_; clear hA; intro w' hA) | (refine st4 ?_; clear hA; intro w' hA) | (refine st2 ?_ ?_ <;> intro hc) | fail))
      refine H.q (Qt.ata (kk := 1) rfl rfl (by omega) (by omega)) ?_
      (repeat' (first | refine stp ?_ | refine stq ?_ | (refine st3 ?_; clear hA; intro w' hA) | (refine st4 ?_; clear hA; intro w' hA) | (refine st2 ?_ ?_ <;> intro hc) | fail))
      rw [m1, rd_take_succ (fun x h => hx x (List.mem_of_mem_drop h)) hc5 (by omega) (by omega)] at hA
      refine K.lpend ⟨i + 1, ?_, ⟨hin, by rw [m2, m4]; exact hA⟩, by omega⟩
      exact Le.cons rfl (Le.cons rfl (Le.cons rfl (Le.cons' rfl (by simp) (Le.nil _))))
  · have : i = xs.length := by omega
    subst this
    (repeat' (first | refine stp ?_ | refine stq ?_ | (refine st3 ?_; clear hA; intro w' hA) | (refine st4 ?_; clear hA; intro w' hA) | (refine st2 ?_ ?_ <;> intro hc) | fail))
    (refine C.ret [_] ⟨⟨_, 0, rfl, LdP.bx hA (i := 0) rfl rfl⟩, trivial⟩ ?_)
    refine ⟨?_, hA.toBelow⟩
    have e1 : rd (xs.take (min xs.length 8)) = rd (xs.take 8) := by congr 1; rw [List.take_eq_take_iff]; omega
    have e2 : rd ((xs.drop 8).take (xs.length - 8)) = rd ((xs.drop 8).take 8) := by congr 1; rw [List.take_eq_take_iff]; simp; omega
    rw [e1, e2]; rfl
theorem mixOf_any (w : World) (A : Option Addr) (cap : Nat) (xs : List Int) (hl : Sl byteCells 1 w A xs) (hx : ∀ x ∈ xs, U8 x) (hn : xs.length = 16) (hc : xs.length ≤ cap) :
    Calls Try.prog 76 #[.slice A xs.length cap] w fun e w' => e = .returned (.tuple #[.agg #[.int .u64 (rd (xs.take 8)), .int .u64 (rd ((xs.drop 8).take 8))], .int .i64 0]) ∧ Below w.heap.size w w' := by
  (have hA := At.start w; refine C.go cc76 rfl rfl ?_)
  (repeat' (first | refine stp ?_ | refine stq ?_ | (refine st3 ?_; clear hA; intro w' hA) | (refine st4 ?_; clear hA; intro w' hA) | (refine st2 ?_ ?_ <;> intro hc) | fail))
  (refine O.new hA ?_; clear hA; intro b w' hA)
  (repeat' (first | refine stp ?_ | refine stq ?_ | (refine st3 ?_; clear hA; intro w' hA) | (refine st4 ?_; clear hA; intro w' hA) | (refine st2 ?_ ?_ <;> intro hc) | fail))
  (refine O.c rfl ((mixRead_any _ A cap xs (hA.has.sl_old (by simp) hl) hx (by omega) hc).mono ?_); rintro en w' ⟨rfl, hb⟩; refine ⟨_, rfl, ?_⟩; replace hA := hA.below hb; clear hb)
  (repeat' (first | refine stp ?_ | refine stq ?_ | (refine st3 ?_; clear hA; intro w' hA) | (refine st4 ?_; clear hA; intro w' hA) | (refine st2 ?_ ?_ <;> intro hc) | fail))
  (refine C.ret [_, _] ⟨⟨_, 0, rfl, LdP.bx hA (i := 0) rfl rfl⟩, rfl, trivial⟩ ?_)
  exact ⟨rfl, hA.toBelow⟩
theorem sealOf_any (w : World) (ga oa len cap : Nat) (xs : List Int) (hl : Sl byteCells 1 w (some ⟨ga, oa, none⟩) xs) (hx : ∀ x ∈ xs, U8 x) (hn : xs.length = 32) (hc : 32 ≤ cap) (hm : cap ≤ 9223372036854775807) :
    Calls Try.prog 109 #[.slice (some ⟨ga, oa, none⟩) 32 cap] w fun e w' => e = .returned (.tuple #[.agg #[.int .u64 (rd (xs.take 8)), .int .u64 (rd ((xs.drop 8).take 8)), .int .u64 (rd ((xs.drop 16).take 8)), .int .u64 (rd ((xs.drop 24).take 8))], .int .i64 0]) ∧ Below w.heap.size w w' := by
  (have hA := At.start w; refine C.go cc109 rfl rfl ?_)
  (repeat' (first | refine stp ?_ | refine stq ?_ | (refine st3 ?_; clear hA; intro w' hA) | (refine st4 ?_; clear hA; intro w' hA) | (refine st2 ?_ ?_ <;> intro hc) | fail))
  (refine O.new hA ?_; clear hA; intro s w' hA)
  (repeat' (first | refine stp ?_ | refine stq ?_ | (refine st3 ?_; clear hA; intro w' hA) | (refine st4 ?_; clear hA; intro w' hA) | (refine st2 ?_ ?_ <;> intro hc) | fail))
  refine O.q (Qt.slc (l := 0) (h := 16) (m := cap) rfl rfl rfl rfl rfl rfl rfl (by omega) (by omega) (by omega) (by simp)) ?_
  rw [cutA_zero]
  have l1 : (xs.take 16).length = 16 := by simp; omega
  have l2 : (xs.drop 16).length = 16 := by simp; omega
  have q1 := mixOf_any w' (some ⟨ga, oa, none⟩) cap (xs.take 16) ((hA.has.sl_old (by simp) hl).take_ 16) (fun x h => hx x (List.mem_of_mem_take h)) l1 (by omega)
  rw [l1] at q1
  (refine O.c rfl ((q1).mono ?_); rintro en w' ⟨rfl, hb⟩; refine ⟨_, rfl, ?_⟩; replace hA := hA.below hb; clear hb)
  (repeat' (first | refine stp ?_ | refine stq ?_ | (refine st3 ?_; clear hA; intro w' hA) | (refine st4 ?_; clear hA; intro w' hA) | (refine st2 ?_ ?_ <;> intro hc) | fail))
  (refine O.new hA ?_; clear hA; intro c w' hA)
  (repeat' (first | refine stp ?_ | refine stq ?_ | (refine st3 ?_; clear hA; intro w' hA) | (refine st4 ?_; clear hA; intro w' hA) | (refine st2 ?_ ?_ <;> intro hc) | fail))
  refine O.q (Qt.slc (l := 16) (h := 32) (m := cap) rfl rfl rfl rfl rfl rfl rfl (by omega) (by omega) (by omega) (by simp)) ?_
  have q2 := mixOf_any w' (cutA (some ⟨ga, oa, none⟩) cap 16 1) (cap - 16) (xs.drop 16) ((hA.has.sl_old (by simp) hl).drop_ 16 cap (by omega) (by omega)) (fun x h => hx x (List.mem_of_mem_drop h)) l2 (by omega)
  rw [l2] at q2
  (refine O.c rfl ((q2).mono ?_); rintro en w' ⟨rfl, hb⟩; refine ⟨_, rfl, ?_⟩; replace hA := hA.below hb; clear hb)
  (repeat' (first | refine stp ?_ | refine stq ?_ | (refine st3 ?_; clear hA; intro w' hA) | (refine st4 ?_; clear hA; intro w' hA) | (refine st2 ?_ ?_ <;> intro hc) | fail))
  (refine O.new hA ?_; clear hA; intro t w' hA)
  (repeat' (first | refine stp ?_ | refine stq ?_ | (refine st3 ?_; clear hA; intro w' hA) | (refine st4 ?_; clear hA; intro w' hA) | (refine st2 ?_ ?_ <;> intro hc) | fail))
  (refine C.ret [_, _] ⟨⟨_, 0, rfl, LdP.bx hA (i := 2) rfl rfl⟩, rfl, trivial⟩ ?_)
  refine ⟨?_, hA.toBelow⟩
  have e1 : ((xs.take 16).take 8) = xs.take 8 := by rw [List.take_take]; rfl
  have e2 : (((xs.take 16).drop 8).take 8) = (xs.drop 8).take 8 := by rw [List.drop_take, List.take_take]; rfl
  rw [e1, e2, List.drop_drop]; rfl
theorem value_any (w : World) (g ga oa len cap : Nat) (xs : List Int) (hr : w.heap[g]? = some (.cells ⟨[.slice (some ⟨ga, oa, none⟩) len cap]⟩ 94 (0, 0))) (hn : 32 ≤ len) (hc : len ≤ cap) (hm : cap ≤ 9223372036854775807)
    (hs : Sl byteCells 1 w (some ⟨ga, oa, none⟩) xs) (hx : ∀ x ∈ xs, U8 x) (hl : xs.length = len) (hne : ga ≠ g) (hlt : ga < w.heap.size) :
    Calls Try.prog 55 #[.pointer (some ⟨g, 0, none⟩)] w
      (RV fun v w' => v = .agg #[Value.bool (rdV (xs.take 32)).sym, .bool (rdV (xs.take 32)).sealed, .int .u64 (rdV (xs.take 32)).b0, .int .u64 (rdV (xs.take 32)).b1, .int .u64 (rdV (xs.take 32)).c0, .int .u64 (rdV (xs.take 32)).c1, .int .u64 (rdV (xs.take 32)).t0, .int .u64 (rdV (xs.take 32)).t1, .int .i64 (rdV (xs.take 32)).t] ∧ At w [g] [bx g 94 [.slice (cutA (some ⟨ga, oa, none⟩) cap 32 1) (len - 32) (cap - 32)]] w') := by
  have hA : At w [g] [bx g 94 [.slice (some ⟨ga, oa, none⟩) len cap]] w := At.startX w (bx g 94 [.slice (some ⟨ga, oa, none⟩) len cap]) g (by unfold bx; rfl) (Array.getElem?_eq_some_iff.1 hr).1 (bx_loc _ _ _) (by unfold bx; exact hr)
  refine C.go cc55 rfl rfl ?_
  (repeat' (first | refine stp ?_ | refine stq ?_ | (refine st3 ?_; clear hA; intro w' hA) | (refine st4 ?_; clear hA; intro w' hA) | (refine st2 ?_ ?_ <;> intro hc) | fail))
  (refine O.new hA ?_; clear hA; intro r w' hA)
  (repeat' (first | refine stp ?_ | refine stq ?_ | (refine st3 ?_; clear hA; intro w' hA) | (refine st4 ?_; clear hA; intro w' hA) | (refine st2 ?_ ?_ <;> intro hc) | fail))
  refine O.c rfl ((cut_any w' g ga oa len cap 32 (hA.heap_bx (i := 1) rfl) hn hc hm).mono ?_)
  rintro en w2 ⟨v, rfl, rfl, hB⟩
  refine ⟨_, rfl, ?_⟩
  replace hA := hA.inner (i := 1) rfl rfl hB
  clear hB
  (repeat' (first | refine stp ?_ | refine stq ?_ | (refine st3 ?_; clear hA; intro w' hA) | (refine st4 ?_; clear hA; intro w' hA) | (refine st2 ?_ ?_ <;> intro hc) | fail))
  have l1 : (xs.take 32).length = 32 := by simp; omega
  (refine O.c rfl ((sealOf_any _ ga oa 32 32 (xs.take 32) ((hA.has.sl_old (by simp; exact hne) hs).take_ 32) (fun x h => hx x (List.mem_of_mem_take h)) l1 (by omega) (by omega)).mono ?_); rintro en w' ⟨rfl, hb⟩; refine ⟨_, rfl, ?_⟩; replace hA := hA.below hb; clear hb)
  (repeat' (first | refine stp ?_ | refine stq ?_ | (refine st3 ?_; clear hA; intro w' hA) | (refine st4 ?_; clear hA; intro w' hA) | (refine st2 ?_ ?_ <;> intro hc) | fail))
  (refine O.new hA ?_; clear hA; intro t w' hA)
  (repeat' (first | refine stp ?_ | refine stq ?_ | (refine st3 ?_; clear hA; intro w' hA) | (refine st4 ?_; clear hA; intro w' hA) | (refine st2 ?_ ?_ <;> intro hc) | fail))
  (refine C.ret [_] ⟨⟨_, 0, rfl, LdP.bx hA (i := 1) rfl rfl⟩, trivial⟩ ?_)
  refine ⟨_, rfl, ?_, hA.keep [0, 0, 1] rfl⟩
  rfl
end Go.Proofs.Ytmajepinbldneaa
