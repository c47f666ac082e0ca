/- The walk of law16's HeadBack. -/
import Derived.Test.YtmajepinbldneaaFromC
import Derived.Test.YtmajepinbldneaaSame
namespace Go.Proofs.Ytmajepinbldneaa
set_option linter.unusedVariables false
set_option linter.unusedSimpArgs false
open Go.RowKit
attribute [local irreducible] rdH octH headCheck fromE headLength
attribute [local irreducible] SO SK SD SDA SHO Rt bx ow Qt Ef
set_option maxHeartbeats 2000000
set_option maxRecDepth 100000
theorem headBack_any (sc h ep : Int) (A : Option Addr) (cap : Nat) (l : List Part) (pay : Val) (B : Option Addr) (capb : Nat) (xs : List Int) (w : World) (hl : Sl Part.cells 11 w A l) (hk : ∀ p ∈ l, p.ok) (hp : pay.ok) (hcap : l.length ≤ cap) (hcm : cap ≤ 9223372036854775807)
    (hb : Sl byteCells 1 w B xs) (hx : ∀ x ∈ xs, U8 x) (hcb : xs.length ≤ capb) (hmb : capb ≤ 9223372036854775807) :
    Calls Try.prog 6 #[.agg #[Value.int .i64 sc, .int .i64 h, .int .i64 ep, .slice A l.length cap, .bool pay.sym, .bool pay.sealed, .int .u64 pay.b0, .int .u64 pay.b1, .int .u64 pay.c0, .int .u64 pay.c1, .int .u64 pay.t0, .int .u64 pay.t1, .int .i64 pay.t], .slice B xs.length capb] w fun e w' => e = .returned (.bool true) ∧ Below w.heap.size w w' := by
  (have hA := At.start w; refine C.go cc6 rfl rfl ?_)
  (repeat' (first | refine stp ?_ | refine stq ?_ | (refine st3 ?_; clear hA; intro w' hA) | (refine st4 ?_; clear hA; intro w' hA) | (refine st2 ?_ ?_ <;> intro hc) | fail))
  (refine O.box hA rfl rfl ?_; clear hA; intro x w' hA)
  (repeat' (first | refine stp ?_ | refine stq ?_ | (refine st3 ?_; clear hA; intro w' hA) | (refine st4 ?_; clear hA; intro w' hA) | (refine st2 ?_ ?_ <;> intro hc) | fail))
  (refine O.c rfl ((live16_any _).mono ?_); rintro en w' ⟨rfl, hb⟩; refine ⟨_, rfl, ?_⟩; replace hA := hA.below hb; clear hb)
  by_cases c1 : 200 < l.length
  · (repeat' (first | refine stp ?_ | refine stq ?_ | (refine st3 ?_; clear hA; intro w' hA) | (refine st4 ?_; clear hA; intro w' hA) | (refine st2 ?_ ?_ <;> intro hc) | fail))
    (refine C.ret [_] ⟨rfl, trivial⟩ ?_)
    exact ⟨rfl, hA.toBelow⟩
  by_cases c2 : 9000 < xs.length
  · (repeat' (first | refine stp ?_ | refine stq ?_ | (refine st3 ?_; clear hA; intro w' hA) | (refine st4 ?_; clear hA; intro w' hA) | (refine st2 ?_ ?_ <;> intro hc) | fail))
    (refine C.ret [_] ⟨rfl, trivial⟩ ?_)
    exact ⟨rfl, hA.toBelow⟩
  (repeat' (first | refine stp ?_ | refine stq ?_ | (refine st3 ?_; clear hA; intro w' hA) | (refine st4 ?_; clear hA; intro w' hA) | (refine st2 ?_ ?_ <;> intro hc) | fail))
  by_cases hE : fromE xs = 0
  · obtain ⟨g1, g2⟩ := fromE_count hE
    have g3 := (headCheck_ranges (fromE_zero hE).1).2.2.2.1
    (refine O.c rfl ((headFrom_good _ B capb _ xs (hA.has.sl_old (by simp) hb) hx hcb hmb hE rfl).mono ?_); rintro en w' ⟨v, rfl, ho, hb⟩; refine ⟨_, rfl, ?_⟩; replace hA := hA.addOwn hb ho; clear hb ho)
    obtain ⟨A3, c3, rfl, hc3, hm3⟩ := hA.form (i := 0) encPart rfl
    (repeat' (first | refine stp ?_ | refine stq ?_ | (refine st3 ?_; clear hA; intro w' hA) | (refine st4 ?_; clear hA; intro w' hA) | (refine st2 ?_ ?_ <;> intro hc) | fail))
    (refine O.new hA ?_; clear hA; intro y w' hA)
    (repeat' (first | refine stp ?_ | refine stq ?_ | (refine st3 ?_; clear hA; intro w' hA) | (refine st4 ?_; clear hA; intro w' hA) | (refine st2 ?_ ?_ <;> intro hc) | fail))
    have hs := hA.has.slv encPart (i := 1) rfl
    (refine O.c rfl ((headBytes_rd A3 c3 xs _ hE hx hs.1 hs.2.2 hm3).mono ?_); rintro en w' ⟨v2, rfl, ho, hb⟩; refine ⟨_, rfl, ?_⟩; replace hA := hA.addOwn hb ho; clear hb ho)
    obtain ⟨A4, c4, rfl, hc4, hm4⟩ := hA.form (i := 0) encByte rfl
    (repeat' (first | refine stp ?_ | refine stq ?_ | (refine st3 ?_; clear hA; intro w' hA) | (refine st4 ?_; clear hA; intro w' hA) | (refine st2 ?_ ?_ <;> intro hc) | fail))
    (refine O.c rfl ((headLength_any _ _).mono ?_); rintro en w' ⟨rfl, rfl⟩; refine ⟨_, rfl, ?_⟩)
    rw [headLength_good (n := ((rdH xs).l.length : Int)) ⟨by omega, by omega⟩]
    dsimp only
    have hs2 : ((strOfNums xs).toList == (strOfNums xs).toList) = true := by simp
    (repeat' (first | refine stp ?_ | refine stq ?_ | (refine st3 ?_; clear hA; intro w' hA) | (refine st4 ?_; clear hA; intro w' hA) | (refine st2 ?_ ?_ <;> intro hc) | fail))
    have hs3 := hA.has.slv encPart (i := 2) rfl
    (refine O.c rfl ((headCheck_rd A3 c3 xs _ hE hx hs3.1 hs3.2.2 hm3).mono ?_); rintro en w' ⟨rfl, hb⟩; refine ⟨_, rfl, ?_⟩; replace hA := hA.below hb; clear hb)
    (repeat' (first | refine stp ?_ | refine stq ?_ | (refine st3 ?_; clear hA; intro w' hA) | (refine st4 ?_; clear hA; intro w' hA) | (refine st2 ?_ ?_ <;> intro hc) | fail))
    replace hA := hA.keep [0, 0, 0, 1] rfl
    by_cases h0 : headCheck ⟨sc, h, ep, l, pay⟩ = 0
    · (refine O.c rfl ((headBytes_good _ _ _ _ _ l pay _ (hA.has.sl_old (by simp) hl) hk hcap hcm h0).mono ?_); rintro en w' ⟨v5, rfl, ho, hb⟩; refine ⟨_, rfl, ?_⟩; replace hA := hA.addOwn hb ho; clear hb ho)
      obtain ⟨A5, c5, rfl, hc5, hm5⟩ := hA.form (i := 0) encByte rfl
      (repeat' (first | refine stp ?_ | refine stq ?_ | (refine st3 ?_; clear hA; intro w' hA) | (refine st4 ?_; clear hA; intro w' hA) | (refine st2 ?_ ?_ <;> intro hc) | fail))
      have hs5 := hA.has.slv encByte (i := 0) rfl
      (refine O.c rfl ((headFrom_oct _ A5 c5 _ ⟨sc, h, ep, l, pay⟩ hs5.1 hs5.2.2 hm5 h0 hk hp rfl).mono ?_); rintro en w' ⟨v6, rfl, ho, hb⟩; refine ⟨_, rfl, ?_⟩; replace hA := hA.addOwn hb ho; clear hb ho)
      obtain ⟨A6, c6, rfl, hc6, hm6⟩ := hA.form (i := 0) encPart rfl
      (repeat' (first | refine stp ?_ | refine stq ?_ | (refine st3 ?_; clear hA; intro w' hA) | (refine st4 ?_; clear hA; intro w' hA) | (refine st2 ?_ ?_ <;> intro hc) | fail))
      (refine O.new hA ?_; clear hA; intro z w' hA)
      (repeat' (first | refine stp ?_ | refine stq ?_ | (refine st3 ?_; clear hA; intro w' hA) | (refine st4 ?_; clear hA; intro w' hA) | (refine st2 ?_ ?_ <;> intro hc) | fail))
      (refine O.c rfl ((headLength_any _ _).mono ?_); rintro en w' ⟨rfl, rfl⟩; refine ⟨_, rfl, ?_⟩)
      rw [headLength_good (n := (l.length : Int)) ⟨by omega, by omega⟩]
      dsimp only
      (repeat' (first | refine stp ?_ | refine stq ?_ | (refine st3 ?_; clear hA; intro w' hA) | (refine st4 ?_; clear hA; intro w' hA) | (refine st2 ?_ ?_ <;> intro hc) | fail))
      have hs6 := hA.has.slv encPart (i := 1) rfl
      (refine O.c rfl ((headSame_any sc h ep A6 c6 l pay sc h ep A cap l pay _ hs6.1 (hA.has.sl_old (by simp) hl) (by omega)).mono ?_); rintro en w' ⟨rfl, hb⟩; refine ⟨_, rfl, ?_⟩; replace hA := hA.below hb; clear hb)
      rw [eqC_true rfl]
      have e9 := octH_length ⟨sc, h, ep, l, pay⟩
      dsimp only at e9
      have e8 : (((octH ⟨sc, h, ep, l, pay⟩).length : Int) == 47 + 48 * (l.length : Int)) = true := by rw [beq_iff_eq]; omega
      (repeat' (first | refine stp ?_ | refine stq ?_ | (refine st3 ?_; clear hA; intro w' hA) | (refine st4 ?_; clear hA; intro w' hA) | (refine st2 ?_ ?_ <;> intro hc) | fail))
      (refine C.ret [_] ⟨rfl, trivial⟩ ?_)
      rw [e8]
      exact ⟨rfl, hA.toBelow⟩
    · (refine O.c rfl ((headBytes_bad _ _ _ _ _ l pay _ (hA.has.sl_old (by simp) hl) hk hcap hcm h0).mono ?_); rintro en w' ⟨rfl, hb⟩; refine ⟨_, rfl, ?_⟩; replace hA := hA.below hb; clear hb)
      (repeat' (first | refine stp ?_ | refine stq ?_ | (refine st3 ?_; clear hA; intro w' hA) | (refine st4 ?_; clear hA; intro w' hA) | (refine st2 ?_ ?_ <;> intro hc) | fail))
      (refine O.c rfl ((headCheck_any _ _ _ _ _ l pay _ (hA.has.sl_old (by simp) hl) hk hcap hcm).mono ?_); rintro en w' ⟨rfl, hb⟩; refine ⟨_, rfl, ?_⟩; replace hA := hA.below hb; clear hb)
      (repeat' (first | refine stp ?_ | refine stq ?_ | (refine st3 ?_; clear hA; intro w' hA) | (refine st4 ?_; clear hA; intro w' hA) | (refine st2 ?_ ?_ <;> intro hc) | fail))
      (refine C.ret [_] ⟨rfl, trivial⟩ ?_)
      exact ⟨rfl, hA.toBelow⟩
  · (refine O.c rfl ((headFrom_bad _ B capb _ xs (hA.has.sl_old (by simp) hb) hx hcb hmb hE rfl).mono ?_); rintro en w' ⟨rfl, hb⟩; refine ⟨_, rfl, ?_⟩; replace hA := hA.below hb; clear hb)
    (repeat' (first | refine stp ?_ | refine stq ?_ | (refine st3 ?_; clear hA; intro w' hA) | (refine st4 ?_; clear hA; intro w' hA) | (refine st2 ?_ ?_ <;> intro hc) | fail))
    (refine O.new hA ?_; clear hA; intro y w' hA)
    (repeat' (first | refine stp ?_ | refine stq ?_ | (refine st3 ?_; clear hA; intro w' hA) | (refine st4 ?_; clear hA; intro w' hA) | (refine st2 ?_ ?_ <;> intro hc) | fail))
    replace hA := hA.keep [0, 1] rfl
    by_cases h0 : headCheck ⟨sc, h, ep, l, pay⟩ = 0
    · (refine O.c rfl ((headBytes_good _ _ _ _ _ l pay _ (hA.has.sl_old (by simp) hl) hk hcap hcm h0).mono ?_); rintro en w' ⟨v5, rfl, ho, hb⟩; refine ⟨_, rfl, ?_⟩; replace hA := hA.addOwn hb ho; clear hb ho)
      obtain ⟨A5, c5, rfl, hc5, hm5⟩ := hA.form (i := 0) encByte rfl
      (repeat' (first | refine stp ?_ | refine stq ?_ | (refine st3 ?_; clear hA; intro w' hA) | (refine st4 ?_; clear hA; intro w' hA) | (refine st2 ?_ ?_ <;> intro hc) | fail))
      have hs5 := hA.has.slv encByte (i := 0) rfl
      (refine O.c rfl ((headFrom_oct _ A5 c5 _ ⟨sc, h, ep, l, pay⟩ hs5.1 hs5.2.2 hm5 h0 hk hp rfl).mono ?_); rintro en w' ⟨v6, rfl, ho, hb⟩; refine ⟨_, rfl, ?_⟩; replace hA := hA.addOwn hb ho; clear hb ho)
      obtain ⟨A6, c6, rfl, hc6, hm6⟩ := hA.form (i := 0) encPart rfl
      (repeat' (first | refine stp ?_ | refine stq ?_ | (refine st3 ?_; clear hA; intro w' hA) | (refine st4 ?_; clear hA; intro w' hA) | (refine st2 ?_ ?_ <;> intro hc) | fail))
      (refine O.new hA ?_; clear hA; intro z w' hA)
      (repeat' (first | refine stp ?_ | refine stq ?_ | (refine st3 ?_; clear hA; intro w' hA) | (refine st4 ?_; clear hA; intro w' hA) | (refine st2 ?_ ?_ <;> intro hc) | fail))
      (refine O.c rfl ((headLength_any _ _).mono ?_); rintro en w' ⟨rfl, rfl⟩; refine ⟨_, rfl, ?_⟩)
      rw [headLength_good (n := (l.length : Int)) ⟨by omega, by omega⟩]
      dsimp only
      (repeat' (first | refine stp ?_ | refine stq ?_ | (refine st3 ?_; clear hA; intro w' hA) | (refine st4 ?_; clear hA; intro w' hA) | (refine st2 ?_ ?_ <;> intro hc) | fail))
      have hs6 := hA.has.slv encPart (i := 1) rfl
      (refine O.c rfl ((headSame_any sc h ep A6 c6 l pay sc h ep A cap l pay _ hs6.1 (hA.has.sl_old (by simp) hl) (by omega)).mono ?_); rintro en w' ⟨rfl, hb⟩; refine ⟨_, rfl, ?_⟩; replace hA := hA.below hb; clear hb)
      rw [eqC_true rfl]
      have e9 := octH_length ⟨sc, h, ep, l, pay⟩
      dsimp only at e9
      have e8 : (((octH ⟨sc, h, ep, l, pay⟩).length : Int) == 47 + 48 * (l.length : Int)) = true := by rw [beq_iff_eq]; omega
      (repeat' (first | refine stp ?_ | refine stq ?_ | (refine st3 ?_; clear hA; intro w' hA) | (refine st4 ?_; clear hA; intro w' hA) | (refine st2 ?_ ?_ <;> intro hc) | fail))
      (refine C.ret [_] ⟨rfl, trivial⟩ ?_)
      rw [e8]
      exact ⟨rfl, hA.toBelow⟩
    · (refine O.c rfl ((headBytes_bad _ _ _ _ _ l pay _ (hA.has.sl_old (by simp) hl) hk hcap hcm h0).mono ?_); rintro en w' ⟨rfl, hb⟩; refine ⟨_, rfl, ?_⟩; replace hA := hA.below hb; clear hb)
      (repeat' (first | refine stp ?_ | refine stq ?_ | (refine st3 ?_; clear hA; intro w' hA) | (refine st4 ?_; clear hA; intro w' hA) | (refine st2 ?_ ?_ <;> intro hc) | fail))
      (refine O.c rfl ((headCheck_any _ _ _ _ _ l pay _ (hA.has.sl_old (by simp) hl) hk hcap hcm).mono ?_); rintro en w' ⟨rfl, hb⟩; refine ⟨_, rfl, ?_⟩; replace hA := hA.below hb; clear hb)
      (repeat' (first | refine stp ?_ | refine stq ?_ | (refine st3 ?_; clear hA; intro w' hA) | (refine st4 ?_; clear hA; intro w' hA) | (refine st2 ?_ ?_ <;> intro hc) | fail))
      (refine C.ret [_] ⟨rfl, trivial⟩ ?_)
      exact ⟨rfl, hA.toBelow⟩
end Go.Proofs.Ytmajepinbldneaa
