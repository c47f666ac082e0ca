/- The walk of law16's HeadCut. -/
import Derived.Test.YtmajepinbldneaaFromC
import Derived.Test.YtmajepinbldneaaSame
namespace Go.Proofs.Ytmajepinbldneaa
set_option linter.unusedVariables false
set_option linter.unusedSimpArgs false
open Go.RowKit
attribute [local irreducible] rdH octH headCheck fromE headLength
attribute [local irreducible] SO SK SD SDA SHO Rt bx ow Qt Ef
set_option maxHeartbeats 2000000
set_option maxRecDepth 100000
theorem headCut_any (sc h ep : Int) (A : Option Addr) (cap : Nat) (l : List Part) (pay : Val) (sc' h' ep' : Int) (A' : Option Addr) (cap' : Nat) (l' : List Part) (pay' : Val) (cut : Int) (B : Option Addr) (capb : Nat) (more : List Int) (w : World) (hl : Sl Part.cells 11 w A l) (hk : ∀ p ∈ l, p.ok) (hp : pay.ok) (hcap : l.length ≤ cap) (hcm : cap ≤ 9223372036854775807)
    (hl' : Sl Part.cells 11 w A' l') (hk' : ∀ p ∈ l', p.ok) (hp' : pay'.ok) (hcap' : l'.length ≤ cap') (hcm' : cap' ≤ 9223372036854775807)
    (hb : Sl byteCells 1 w B more) (hmo : ∀ x ∈ more, U8 x) (hcb : more.length ≤ capb) (hmb : capb ≤ 9223372036854775807) :
    Calls Try.prog 7 #[.agg #[Value.int .i64 sc, .int .i64 h, .int .i64 ep, .slice A l.length cap, .bool pay.sym, .bool pay.sealed, .int .u64 pay.b0, .int .u64 pay.b1, .int .u64 pay.c0, .int .u64 pay.c1, .int .u64 pay.t0, .int .u64 pay.t1, .int .i64 pay.t], .agg #[Value.int .i64 sc', .int .i64 h', .int .i64 ep', .slice A' l'.length cap', .bool pay'.sym, .bool pay'.sealed, .int .u64 pay'.b0, .int .u64 pay'.b1, .int .u64 pay'.c0, .int .u64 pay'.c1, .int .u64 pay'.t0, .int .u64 pay'.t1, .int .i64 pay'.t], .int .i64 cut, .slice B more.length capb] w fun e w' => e = .returned (.bool true) ∧ Below w.heap.size w w' := by
  (have hA := At.start w; refine C.go cc7 rfl rfl ?_)
  (repeat' (first | refine stp ?_ | refine stq ?_ | (refine st3 ?_; clear hA; intro w' hA) | (refine st4 ?_; clear hA; intro w' hA) | (refine st2 ?_ ?_ <;> intro hc) | fail))
  (refine O.box hA rfl rfl ?_; clear hA; intro x w' hA)
  (repeat' (first | refine stp ?_ | refine stq ?_ | (refine st3 ?_; clear hA; intro w' hA) | (refine st4 ?_; clear hA; intro w' hA) | (refine st2 ?_ ?_ <;> intro hc) | fail))
  (refine O.box hA rfl rfl ?_; clear hA; intro y w' hA)
  (repeat' (first | refine stp ?_ | refine stq ?_ | (refine st3 ?_; clear hA; intro w' hA) | (refine st4 ?_; clear hA; intro w' hA) | (refine st2 ?_ ?_ <;> intro hc) | fail))
  (refine O.c rfl ((live16_any _).mono ?_); rintro en w' ⟨rfl, hb⟩; refine ⟨_, rfl, ?_⟩; replace hA := hA.below hb; clear hb)
  by_cases c1 : 60 < l.length
  · (repeat' (first | refine stp ?_ | refine stq ?_ | (refine st3 ?_; clear hA; intro w' hA) | (refine st4 ?_; clear hA; intro w' hA) | (refine st2 ?_ ?_ <;> intro hc) | fail))
    (refine C.ret [_] ⟨rfl, trivial⟩ ?_)
    exact ⟨rfl, hA.toBelow⟩
  by_cases c2 : 60 < l'.length
  · (repeat' (first | refine stp ?_ | refine stq ?_ | (refine st3 ?_; clear hA; intro w' hA) | (refine st4 ?_; clear hA; intro w' hA) | (refine st2 ?_ ?_ <;> intro hc) | fail))
    (refine C.ret [_] ⟨rfl, trivial⟩ ?_)
    exact ⟨rfl, hA.toBelow⟩
  by_cases c3 : 100 < more.length
  · (repeat' (first | refine stp ?_ | refine stq ?_ | (refine st3 ?_; clear hA; intro w' hA) | (refine st4 ?_; clear hA; intro w' hA) | (refine st2 ?_ ?_ <;> intro hc) | fail))
    (refine C.ret [_] ⟨rfl, trivial⟩ ?_)
    exact ⟨rfl, hA.toBelow⟩
  (repeat' (first | refine stp ?_ | refine stq ?_ | (refine st3 ?_; clear hA; intro w' hA) | (refine st4 ?_; clear hA; intro w' hA) | (refine st2 ?_ ?_ <;> intro hc) | fail))
  by_cases h0 : headCheck ⟨sc, h, ep, l, pay⟩ = 0
  · have hshort := octH_short h0
    (refine O.c rfl ((headBytes_good _ _ _ _ _ l pay _ (hA.has.sl_old (by simp) hl) hk hcap hcm h0).mono ?_); rintro en w' ⟨v4, rfl, ho, hb⟩; refine ⟨_, rfl, ?_⟩; replace hA := hA.addOwn hb ho; clear hb ho)
    obtain ⟨A4, c4, rfl, hc4, hm4⟩ := hA.form (i := 0) encByte rfl
    (repeat' (first | refine stp ?_ | refine stq ?_ | (refine st3 ?_; clear hA; intro w' hA) | (refine st4 ?_; clear hA; intro w' hA) | (refine st2 ?_ ?_ <;> intro hc) | fail))
    by_cases h0' : headCheck ⟨sc', h', ep', l', pay'⟩ = 0
    · (refine O.c rfl ((headBytes_good _ _ _ _ _ l' pay' _ (hA.has.sl_old (by simp) hl') hk' hcap' hcm' h0').mono ?_); rintro en w' ⟨v5, rfl, ho, hb⟩; refine ⟨_, rfl, ?_⟩; replace hA := hA.addOwn hb ho; clear hb ho)
      obtain ⟨A5, c5, rfl, hc5, hm5⟩ := hA.form (i := 0) encByte rfl
      have hs : ((strOfNums (octH ⟨sc, h, ep, l, pay⟩)).toList == (strOfNums (octH ⟨sc', h', ep', l', pay'⟩)).toList) = eqC (⟨sc, h, ep, l, pay⟩ : Hdr) ⟨sc', h', ep', l', pay'⟩ := by
        rw [str_beq (octH_u8F _) (octH_u8F _)]
        exact eqC_beq ⟨fun e0 => octH_inj h0 h0' hk hp hk' hp' (of_decide_eq_true e0), fun e0 => by rw [e0]; simp⟩
      (repeat' (first | refine stp ?_ | refine stq ?_ | (refine st3 ?_; clear hA; intro w' hA) | (refine st4 ?_; clear hA; intro w' hA) | (refine st2 ?_ ?_ <;> intro hc) | fail))
      (refine K.dr hA [0, 1, 2, 3] rfl ?_; clear hA; intro w' hA)
      (repeat' (first | refine stp ?_ | refine stq ?_ | (refine st3 ?_; clear hA; intro w' hA) | (refine st4 ?_; clear hA; intro w' hA) | fail))
      refine D.eg rfl (Ef.call rfl ((headSame_any sc h ep A cap l pay sc' h' ep' A' cap' l' pay' _ (hA.has.sl_old (by simp) hl) (hA.has.sl_old (by simp) hl') (by omega)).mono ?_))
      rintro en w' ⟨rfl, hb9⟩
      refine ⟨_, rfl, ?_⟩
      replace hA := hA.below hb9
      clear hb9
      refine ⟨hA.pick [0, 1, 2, 3] rfl, ?_⟩
      rw [hs]
      have he : (eqC (⟨sc, h, ep, l, pay⟩ : Hdr) ⟨sc', h', ep', l', pay'⟩ != eqC (⟨sc, h, ep, l, pay⟩ : Hdr) ⟨sc', h', ep', l', pay'⟩) = false := by simp
      by_cases hcut : 0 ≤ cut ∧ cut < ((octH ⟨sc, h, ep, l, pay⟩).length : Int)
      · (repeat' (first | refine stp ?_ | refine stq ?_ | (refine st3 ?_; clear hA; intro w' hA) | (refine st4 ?_; clear hA; intro w' hA) | (refine st2 ?_ ?_ <;> intro hc) | fail))
        replace hA := hA.keep [0, 1, 0, 0] rfl
        have hs4 := hA.has.slv encByte (i := 0) rfl
        have hcm4 := hA.len_ow (i := 0) rfl
        refine O.q (Qt.slc (l := 0) (h := cut.toNat) (m := c4) rfl rfl rfl rfl rfl (by omega) rfl (by omega) (by omega) (by omega) (by simp)) ?_
        rw [cutA_zero]
        have hE2 := fromE_cut (fromE_octH h0 hk hp) (k := cut.toNat) (by omega)
        (refine O.c rfl ((headFrom_bad _ A4 c4 _ ((octH ⟨sc, h, ep, l, pay⟩).take cut.toNat) (hs4.1.take_ _) (fun x hx => octH_u8F _ x (List.mem_of_mem_take hx)) (by simp; omega) hcm4 (by rw [hE2]; decide) (by simp; omega)).mono ?_); rintro en w' ⟨rfl, hb⟩; refine ⟨_, rfl, ?_⟩; replace hA := hA.below hb; clear hb)
        rw [hE2]
        (repeat' (first | refine stp ?_ | refine stq ?_ | (refine st3 ?_; clear hA; intro w' hA) | (refine st4 ?_; clear hA; intro w' hA) | (refine st2 ?_ ?_ <;> intro hc) | fail))
        (refine O.new hA ?_; clear hA; intro r w' hA)
        (repeat' (first | refine stp ?_ | refine stq ?_ | (refine st3 ?_; clear hA; intro w' hA) | (refine st4 ?_; clear hA; intro w' hA) | (refine st2 ?_ ?_ <;> intro hc) | fail))
        replace hA := hA.keep [0, 1] rfl
        refine O.ef ?_
        have hs1 := hA.has.slv encByte (i := 0) rfl
        refine Ef.appN (octH ⟨sc, h, ep, l, pay⟩) encByte hA rfl rfl rfl hs1.1 rfl (by omega) (by omega) ?_
        clear hA hs1; intro v8 w' hA
        (repeat' (first | refine stp ?_ | refine stq ?_ | (refine st3 ?_; clear hA; intro w' hA) | (refine st4 ?_; clear hA; intro w' hA) | (refine st2 ?_ ?_ <;> intro hc) | fail))
        refine O.ef ?_
        refine Ef.appA (i := 0) more encByte hA rfl rfl rfl rfl (hA.has.sl_old (by simp) hb) rfl (by omega) (by omega) (fun v' => rfl) ?_
        clear hA; intro v9 w' hA
        obtain ⟨A9, c9, rfl, hc9, hm9⟩ := hA.form (i := 0) encByte rfl
        (repeat' (first | refine stp ?_ | refine stq ?_ | (refine st3 ?_; clear hA; intro w' hA) | (refine st4 ?_; clear hA; intro w' hA) | (refine st2 ?_ ?_ <;> intro hc) | fail))
        have hs9 := hA.has.slv encByte (i := 0) rfl
        have hu9 : ∀ x ∈ octH ⟨sc, h, ep, l, pay⟩ ++ more, U8 x := fun x hx => by
          rcases List.mem_append.1 hx with hx | hx
          · exact octH_u8F _ x hx
          · exact hmo x hx
        by_cases hmn : more = []
        · have hE : fromE (octH ⟨sc, h, ep, l, pay⟩ ++ more) = 0 := by rw [hmn, List.append_nil]; exact fromE_octH h0 hk hp
          (refine O.c rfl ((headFrom_good _ A9 c9 _ _ hs9.1 hu9 hs9.2.2 hm9 hE rfl).mono ?_); rintro en w' ⟨v10, rfl, ho, hb⟩; refine ⟨_, rfl, ?_⟩; replace hA := hA.addOwn hb ho; clear hb ho)
          obtain ⟨A10, c10, rfl, hc10, hm10⟩ := hA.form (i := 0) encPart rfl
          (repeat' (first | refine stp ?_ | refine stq ?_ | (refine st3 ?_; clear hA; intro w' hA) | (refine st4 ?_; clear hA; intro w' hA) | (refine st2 ?_ ?_ <;> intro hc) | fail))
          (refine O.new hA ?_; clear hA; intro z w' hA)
          (repeat' (first | refine stp ?_ | refine stq ?_ | (refine st3 ?_; clear hA; intro w' hA) | (refine st4 ?_; clear hA; intro w' hA) | (refine st2 ?_ ?_ <;> intro hc) | fail))
          have e8 : ((more.length : Int) == 0) = true := by rw [hmn]; rfl
          (refine C.ret [_] ⟨rfl, trivial⟩ ?_)
          rw [e8]
          exact ⟨rfl, hA.toBelow⟩
        · have hE : fromE (octH ⟨sc, h, ep, l, pay⟩ ++ more) ≠ 0 := fromE_more (fromE_octH h0 hk hp) hmn
          (refine O.c rfl ((headFrom_bad _ A9 c9 _ _ hs9.1 hu9 hs9.2.2 hm9 hE rfl).mono ?_); rintro en w' ⟨rfl, hb⟩; refine ⟨_, rfl, ?_⟩; replace hA := hA.below hb; clear hb)
          (repeat' (first | refine stp ?_ | refine stq ?_ | (refine st3 ?_; clear hA; intro w' hA) | (refine st4 ?_; clear hA; intro w' hA) | (refine st2 ?_ ?_ <;> intro hc) | fail))
          (refine O.new hA ?_; clear hA; intro z w' hA)
          (repeat' (first | refine stp ?_ | refine stq ?_ | (refine st3 ?_; clear hA; intro w' hA) | (refine st4 ?_; clear hA; intro w' hA) | (refine st2 ?_ ?_ <;> intro hc) | fail))
          have e8 : ((more.length : Int) == 0) = false := by rw [beq_eq_false_iff_ne]; intro e0; exact hmn (List.eq_nil_of_length_eq_zero (by omega))
          have e7 : (fromE (octH ⟨sc, h, ep, l, pay⟩ ++ more) == 0) = false := by rw [beq_eq_false_iff_ne]; exact hE
          (refine C.ret [_] ⟨rfl, trivial⟩ ?_)
          rw [e8, e7]
          exact ⟨rfl, hA.toBelow⟩
      · have hcut2 : cut < 0 ∨ ((octH ⟨sc, h, ep, l, pay⟩).length : Int) ≤ cut := by omega
        rcases hcut2 with hcut2 | hcut2
        · (repeat' (first | refine stp ?_ | refine stq ?_ | (refine st3 ?_; clear hA; intro w' hA) | (refine st4 ?_; clear hA; intro w' hA) | (refine st2 ?_ ?_ <;> intro hc) | fail))
          replace hA := hA.keep [0, 1, 0, 0] rfl
          refine O.ef ?_
          have hs1 := hA.has.slv encByte (i := 0) rfl
          refine Ef.appN (octH ⟨sc, h, ep, l, pay⟩) encByte hA rfl rfl rfl hs1.1 rfl (by omega) (by omega) ?_
          clear hA hs1; intro v8 w' hA
          (repeat' (first | refine stp ?_ | refine stq ?_ | (refine st3 ?_; clear hA; intro w' hA) | (refine st4 ?_; clear hA; intro w' hA) | (refine st2 ?_ ?_ <;> intro hc) | fail))
          refine O.ef ?_
          refine Ef.appA (i := 0) more encByte hA rfl rfl rfl rfl (hA.has.sl_old (by simp) hb) rfl (by omega) (by omega) (fun v' => rfl) ?_
          clear hA; intro v9 w' hA
          obtain ⟨A9, c9, rfl, hc9, hm9⟩ := hA.form (i := 0) encByte rfl
          (repeat' (first | refine stp ?_ | refine stq ?_ | (refine st3 ?_; clear hA; intro w' hA) | (refine st4 ?_; clear hA; intro w' hA) | (refine st2 ?_ ?_ <;> intro hc) | fail))
          have hs9 := hA.has.slv encByte (i := 0) rfl
          have hu9 : ∀ x ∈ octH ⟨sc, h, ep, l, pay⟩ ++ more, U8 x := fun x hx => by
            rcases List.mem_append.1 hx with hx | hx
            · exact octH_u8F _ x hx
            · exact hmo x hx
          by_cases hmn : more = []
          · have hE : fromE (octH ⟨sc, h, ep, l, pay⟩ ++ more) = 0 := by rw [hmn, List.append_nil]; exact fromE_octH h0 hk hp
            (refine O.c rfl ((headFrom_good _ A9 c9 _ _ hs9.1 hu9 hs9.2.2 hm9 hE rfl).mono ?_); rintro en w' ⟨v10, rfl, ho, hb⟩; refine ⟨_, rfl, ?_⟩; replace hA := hA.addOwn hb ho; clear hb ho)
            obtain ⟨A10, c10, rfl, hc10, hm10⟩ := hA.form (i := 0) encPart rfl
            (repeat' (first | refine stp ?_ | refine stq ?_ | (refine st3 ?_; clear hA; intro w' hA) | (refine st4 ?_; clear hA; intro w' hA) | (refine st2 ?_ ?_ <;> intro hc) | fail))
            (refine O.new hA ?_; clear hA; intro z w' hA)
            (repeat' (first | refine stp ?_ | refine stq ?_ | (refine st3 ?_; clear hA; intro w' hA) | (refine st4 ?_; clear hA; intro w' hA) | (refine st2 ?_ ?_ <;> intro hc) | fail))
            have e8 : ((more.length : Int) == 0) = true := by rw [hmn]; rfl
            (refine C.ret [_] ⟨rfl, trivial⟩ ?_)
            rw [e8]
            exact ⟨rfl, hA.toBelow⟩
          · have hE : fromE (octH ⟨sc, h, ep, l, pay⟩ ++ more) ≠ 0 := fromE_more (fromE_octH h0 hk hp) hmn
            (refine O.c rfl ((headFrom_bad _ A9 c9 _ _ hs9.1 hu9 hs9.2.2 hm9 hE rfl).mono ?_); rintro en w' ⟨rfl, hb⟩; refine ⟨_, rfl, ?_⟩; replace hA := hA.below hb; clear hb)
            (repeat' (first | refine stp ?_ | refine stq ?_ | (refine st3 ?_; clear hA; intro w' hA) | (refine st4 ?_; clear hA; intro w' hA) | (refine st2 ?_ ?_ <;> intro hc) | fail))
            (refine O.new hA ?_; clear hA; intro z w' hA)
            (repeat' (first | refine stp ?_ | refine stq ?_ | (refine st3 ?_; clear hA; intro w' hA) | (refine st4 ?_; clear hA; intro w' hA) | (refine st2 ?_ ?_ <;> intro hc) | fail))
            have e8 : ((more.length : Int) == 0) = false := by rw [beq_eq_false_iff_ne]; intro e0; exact hmn (List.eq_nil_of_length_eq_zero (by omega))
            have e7 : (fromE (octH ⟨sc, h, ep, l, pay⟩ ++ more) == 0) = false := by rw [beq_eq_false_iff_ne]; exact hE
            (refine C.ret [_] ⟨rfl, trivial⟩ ?_)
            rw [e8, e7]
            exact ⟨rfl, hA.toBelow⟩
        · (repeat' (first | refine stp ?_ | refine stq ?_ | (refine st3 ?_; clear hA; intro w' hA) | (refine st4 ?_; clear hA; intro w' hA) | (refine st2 ?_ ?_ <;> intro hc) | fail))
          replace hA := hA.keep [0, 1, 0, 0] rfl
          refine O.ef ?_
          have hs1 := hA.has.slv encByte (i := 0) rfl
          refine Ef.appN (octH ⟨sc, h, ep, l, pay⟩) encByte hA rfl rfl rfl hs1.1 rfl (by omega) (by omega) ?_
          clear hA hs1; intro v8 w' hA
          (repeat' (first | refine stp ?_ | refine stq ?_ | (refine st3 ?_; clear hA; intro w' hA) | (refine st4 ?_; clear hA; intro w' hA) | (refine st2 ?_ ?_ <;> intro hc) | fail))
          refine O.ef ?_
          refine Ef.appA (i := 0) more encByte hA rfl rfl rfl rfl (hA.has.sl_old (by simp) hb) rfl (by omega) (by omega) (fun v' => rfl) ?_
          clear hA; intro v9 w' hA
          obtain ⟨A9, c9, rfl, hc9, hm9⟩ := hA.form (i := 0) encByte rfl
          (repeat' (first | refine stp ?_ | refine stq ?_ | (refine st3 ?_; clear hA; intro w' hA) | (refine st4 ?_; clear hA; intro w' hA) | (refine st2 ?_ ?_ <;> intro hc) | fail))
          have hs9 := hA.has.slv encByte (i := 0) rfl
          have hu9 : ∀ x ∈ octH ⟨sc, h, ep, l, pay⟩ ++ more, U8 x := fun x hx => by
            rcases List.mem_append.1 hx with hx | hx
            · exact octH_u8F _ x hx
            · exact hmo x hx
          by_cases hmn : more = []
          · have hE : fromE (octH ⟨sc, h, ep, l, pay⟩ ++ more) = 0 := by rw [hmn, List.append_nil]; exact fromE_octH h0 hk hp
            (refine O.c rfl ((headFrom_good _ A9 c9 _ _ hs9.1 hu9 hs9.2.2 hm9 hE rfl).mono ?_); rintro en w' ⟨v10, rfl, ho, hb⟩; refine ⟨_, rfl, ?_⟩; replace hA := hA.addOwn hb ho; clear hb ho)
            obtain ⟨A10, c10, rfl, hc10, hm10⟩ := hA.form (i := 0) encPart rfl
            (repeat' (first | refine stp ?_ | refine stq ?_ | (refine st3 ?_; clear hA; intro w' hA) | (refine st4 ?_; clear hA; intro w' hA) | (refine st2 ?_ ?_ <;> intro hc) | fail))
            (refine O.new hA ?_; clear hA; intro z w' hA)
            (repeat' (first | refine stp ?_ | refine stq ?_ | (refine st3 ?_; clear hA; intro w' hA) | (refine st4 ?_; clear hA; intro w' hA) | (refine st2 ?_ ?_ <;> intro hc) | fail))
            have e8 : ((more.length : Int) == 0) = true := by rw [hmn]; rfl
            (refine C.ret [_] ⟨rfl, trivial⟩ ?_)
            rw [e8]
            exact ⟨rfl, hA.toBelow⟩
          · have hE : fromE (octH ⟨sc, h, ep, l, pay⟩ ++ more) ≠ 0 := fromE_more (fromE_octH h0 hk hp) hmn
            (refine O.c rfl ((headFrom_bad _ A9 c9 _ _ hs9.1 hu9 hs9.2.2 hm9 hE rfl).mono ?_); rintro en w' ⟨rfl, hb⟩; refine ⟨_, rfl, ?_⟩; replace hA := hA.below hb; clear hb)
            (repeat' (first | refine stp ?_ | refine stq ?_ | (refine st3 ?_; clear hA; intro w' hA) | (refine st4 ?_; clear hA; intro w' hA) | (refine st2 ?_ ?_ <;> intro hc) | fail))
            (refine O.new hA ?_; clear hA; intro z w' hA)
            (repeat' (first | refine stp ?_ | refine stq ?_ | (refine st3 ?_; clear hA; intro w' hA) | (refine st4 ?_; clear hA; intro w' hA) | (refine st2 ?_ ?_ <;> intro hc) | fail))
            have e8 : ((more.length : Int) == 0) = false := by rw [beq_eq_false_iff_ne]; intro e0; exact hmn (List.eq_nil_of_length_eq_zero (by omega))
            have e7 : (fromE (octH ⟨sc, h, ep, l, pay⟩ ++ more) == 0) = false := by rw [beq_eq_false_iff_ne]; exact hE
            (refine C.ret [_] ⟨rfl, trivial⟩ ?_)
            rw [e8, e7]
            exact ⟨rfl, hA.toBelow⟩
    · (refine O.c rfl ((headBytes_bad _ _ _ _ _ l' pay' _ (hA.has.sl_old (by simp) hl') hk' hcap' hcm' h0').mono ?_); rintro en w' ⟨rfl, hb⟩; refine ⟨_, rfl, ?_⟩; replace hA := hA.below hb; clear hb)
      by_cases hcut : 0 ≤ cut ∧ cut < ((octH ⟨sc, h, ep, l, pay⟩).length : Int)
      · (repeat' (first | refine stp ?_ | refine stq ?_ | (refine st3 ?_; clear hA; intro w' hA) | (refine st4 ?_; clear hA; intro w' hA) | (refine st2 ?_ ?_ <;> intro hc) | fail))
        (refine K.dr hA [0] rfl ?_; clear hA; intro w' hA)
        (repeat' (first | refine stp ?_ | refine stq ?_ | (refine st3 ?_; clear hA; intro w' hA) | (refine st4 ?_; clear hA; intro w' hA) | (refine st2 ?_ ?_ <;> intro hc) | fail))
        replace hA := hA.keep [1, 0, 0] rfl
        have hs4 := hA.has.slv encByte (i := 0) rfl
        have hcm4 := hA.len_ow (i := 0) rfl
        refine O.q (Qt.slc (l := 0) (h := cut.toNat) (m := c4) rfl rfl rfl rfl rfl (by omega) rfl (by omega) (by omega) (by omega) (by simp)) ?_
        rw [cutA_zero]
        have hE2 := fromE_cut (fromE_octH h0 hk hp) (k := cut.toNat) (by omega)
        (refine O.c rfl ((headFrom_bad _ A4 c4 _ ((octH ⟨sc, h, ep, l, pay⟩).take cut.toNat) (hs4.1.take_ _) (fun x hx => octH_u8F _ x (List.mem_of_mem_take hx)) (by simp; omega) hcm4 (by rw [hE2]; decide) (by simp; omega)).mono ?_); rintro en w' ⟨rfl, hb⟩; refine ⟨_, rfl, ?_⟩; replace hA := hA.below hb; clear hb)
        rw [hE2]
        (repeat' (first | refine stp ?_ | refine stq ?_ | (refine st3 ?_; clear hA; intro w' hA) | (refine st4 ?_; clear hA; intro w' hA) | (refine st2 ?_ ?_ <;> intro hc) | fail))
        (refine O.new hA ?_; clear hA; intro r w' hA)
        (repeat' (first | refine stp ?_ | refine stq ?_ | (refine st3 ?_; clear hA; intro w' hA) | (refine st4 ?_; clear hA; intro w' hA) | (refine st2 ?_ ?_ <;> intro hc) | fail))
        replace hA := hA.keep [0, 1] rfl
        refine O.ef ?_
        have hs1 := hA.has.slv encByte (i := 0) rfl
        refine Ef.appN (octH ⟨sc, h, ep, l, pay⟩) encByte hA rfl rfl rfl hs1.1 rfl (by omega) (by omega) ?_
        clear hA hs1; intro v8 w' hA
        (repeat' (first | refine stp ?_ | refine stq ?_ | (refine st3 ?_; clear hA; intro w' hA) | (refine st4 ?_; clear hA; intro w' hA) | (refine st2 ?_ ?_ <;> intro hc) | fail))
        refine O.ef ?_
        refine Ef.appA (i := 0) more encByte hA rfl rfl rfl rfl (hA.has.sl_old (by simp) hb) rfl (by omega) (by omega) (fun v' => rfl) ?_
        clear hA; intro v9 w' hA
        obtain ⟨A9, c9, rfl, hc9, hm9⟩ := hA.form (i := 0) encByte rfl
        (repeat' (first | refine stp ?_ | refine stq ?_ | (refine st3 ?_; clear hA; intro w' hA) | (refine st4 ?_; clear hA; intro w' hA) | (refine st2 ?_ ?_ <;> intro hc) | fail))
        have hs9 := hA.has.slv encByte (i := 0) rfl
        have hu9 : ∀ x ∈ octH ⟨sc, h, ep, l, pay⟩ ++ more, U8 x := fun x hx => by
          rcases List.mem_append.1 hx with hx | hx
          · exact octH_u8F _ x hx
          · exact hmo x hx
        by_cases hmn : more = []
        · have hE : fromE (octH ⟨sc, h, ep, l, pay⟩ ++ more) = 0 := by rw [hmn, List.append_nil]; exact fromE_octH h0 hk hp
          (refine O.c rfl ((headFrom_good _ A9 c9 _ _ hs9.1 hu9 hs9.2.2 hm9 hE rfl).mono ?_); rintro en w' ⟨v10, rfl, ho, hb⟩; refine ⟨_, rfl, ?_⟩; replace hA := hA.addOwn hb ho; clear hb ho)
          obtain ⟨A10, c10, rfl, hc10, hm10⟩ := hA.form (i := 0) encPart rfl
          (repeat' (first | refine stp ?_ | refine stq ?_ | (refine st3 ?_; clear hA; intro w' hA) | (refine st4 ?_; clear hA; intro w' hA) | (refine st2 ?_ ?_ <;> intro hc) | fail))
          (refine O.new hA ?_; clear hA; intro z w' hA)
          (repeat' (first | refine stp ?_ | refine stq ?_ | (refine st3 ?_; clear hA; intro w' hA) | (refine st4 ?_; clear hA; intro w' hA) | (refine st2 ?_ ?_ <;> intro hc) | fail))
          have e8 : ((more.length : Int) == 0) = true := by rw [hmn]; rfl
          (refine C.ret [_] ⟨rfl, trivial⟩ ?_)
          rw [e8]
          exact ⟨rfl, hA.toBelow⟩
        · have hE : fromE (octH ⟨sc, h, ep, l, pay⟩ ++ more) ≠ 0 := fromE_more (fromE_octH h0 hk hp) hmn
          (refine O.c rfl ((headFrom_bad _ A9 c9 _ _ hs9.1 hu9 hs9.2.2 hm9 hE rfl).mono ?_); rintro en w' ⟨rfl, hb⟩; refine ⟨_, rfl, ?_⟩; replace hA := hA.below hb; clear hb)
          (repeat' (first | refine stp ?_ | refine stq ?_ | (refine st3 ?_; clear hA; intro w' hA) | (refine st4 ?_; clear hA; intro w' hA) | (refine st2 ?_ ?_ <;> intro hc) | fail))
          (refine O.new hA ?_; clear hA; intro z w' hA)
          (repeat' (first | refine stp ?_ | refine stq ?_ | (refine st3 ?_; clear hA; intro w' hA) | (refine st4 ?_; clear hA; intro w' hA) | (refine st2 ?_ ?_ <;> intro hc) | fail))
          have e8 : ((more.length : Int) == 0) = false := by rw [beq_eq_false_iff_ne]; intro e0; exact hmn (List.eq_nil_of_length_eq_zero (by omega))
          have e7 : (fromE (octH ⟨sc, h, ep, l, pay⟩ ++ more) == 0) = false := by rw [beq_eq_false_iff_ne]; exact hE
          (refine C.ret [_] ⟨rfl, trivial⟩ ?_)
          rw [e8, e7]
          exact ⟨rfl, hA.toBelow⟩
      · have hcut2 : cut < 0 ∨ ((octH ⟨sc, h, ep, l, pay⟩).length : Int) ≤ cut := by omega
        rcases hcut2 with hcut2 | hcut2
        · (repeat' (first | refine stp ?_ | refine stq ?_ | (refine st3 ?_; clear hA; intro w' hA) | (refine st4 ?_; clear hA; intro w' hA) | (refine st2 ?_ ?_ <;> intro hc) | fail))
          (refine K.dr hA [0] rfl ?_; clear hA; intro w' hA)
          (repeat' (first | refine stp ?_ | refine stq ?_ | (refine st3 ?_; clear hA; intro w' hA) | (refine st4 ?_; clear hA; intro w' hA) | (refine st2 ?_ ?_ <;> intro hc) | fail))
          replace hA := hA.keep [1, 0, 0] rfl
          refine O.ef ?_
          have hs1 := hA.has.slv encByte (i := 0) rfl
          refine Ef.appN (octH ⟨sc, h, ep, l, pay⟩) encByte hA rfl rfl rfl hs1.1 rfl (by omega) (by omega) ?_
          clear hA hs1; intro v8 w' hA
          (repeat' (first | refine stp ?_ | refine stq ?_ | (refine st3 ?_; clear hA; intro w' hA) | (refine st4 ?_; clear hA; intro w' hA) | (refine st2 ?_ ?_ <;> intro hc) | fail))
          refine O.ef ?_
          refine Ef.appA (i := 0) more encByte hA rfl rfl rfl rfl (hA.has.sl_old (by simp) hb) rfl (by omega) (by omega) (fun v' => rfl) ?_
          clear hA; intro v9 w' hA
          obtain ⟨A9, c9, rfl, hc9, hm9⟩ := hA.form (i := 0) encByte rfl
          (repeat' (first | refine stp ?_ | refine stq ?_ | (refine st3 ?_; clear hA; intro w' hA) | (refine st4 ?_; clear hA; intro w' hA) | (refine st2 ?_ ?_ <;> intro hc) | fail))
          have hs9 := hA.has.slv encByte (i := 0) rfl
          have hu9 : ∀ x ∈ octH ⟨sc, h, ep, l, pay⟩ ++ more, U8 x := fun x hx => by
            rcases List.mem_append.1 hx with hx | hx
            · exact octH_u8F _ x hx
            · exact hmo x hx
          by_cases hmn : more = []
          · have hE : fromE (octH ⟨sc, h, ep, l, pay⟩ ++ more) = 0 := by rw [hmn, List.append_nil]; exact fromE_octH h0 hk hp
            (refine O.c rfl ((headFrom_good _ A9 c9 _ _ hs9.1 hu9 hs9.2.2 hm9 hE rfl).mono ?_); rintro en w' ⟨v10, rfl, ho, hb⟩; refine ⟨_, rfl, ?_⟩; replace hA := hA.addOwn hb ho; clear hb ho)
            obtain ⟨A10, c10, rfl, hc10, hm10⟩ := hA.form (i := 0) encPart rfl
            (repeat' (first | refine stp ?_ | refine stq ?_ | (refine st3 ?_; clear hA; intro w' hA) | (refine st4 ?_; clear hA; intro w' hA) | (refine st2 ?_ ?_ <;> intro hc) | fail))
            (refine O.new hA ?_; clear hA; intro z w' hA)
            (repeat' (first | refine stp ?_ | refine stq ?_ | (refine st3 ?_; clear hA; intro w' hA) | (refine st4 ?_; clear hA; intro w' hA) | (refine st2 ?_ ?_ <;> intro hc) | fail))
            have e8 : ((more.length : Int) == 0) = true := by rw [hmn]; rfl
            (refine C.ret [_] ⟨rfl, trivial⟩ ?_)
            rw [e8]
            exact ⟨rfl, hA.toBelow⟩
          · have hE : fromE (octH ⟨sc, h, ep, l, pay⟩ ++ more) ≠ 0 := fromE_more (fromE_octH h0 hk hp) hmn
            (refine O.c rfl ((headFrom_bad _ A9 c9 _ _ hs9.1 hu9 hs9.2.2 hm9 hE rfl).mono ?_); rintro en w' ⟨rfl, hb⟩; refine ⟨_, rfl, ?_⟩; replace hA := hA.below hb; clear hb)
            (repeat' (first | refine stp ?_ | refine stq ?_ | (refine st3 ?_; clear hA; intro w' hA) | (refine st4 ?_; clear hA; intro w' hA) | (refine st2 ?_ ?_ <;> intro hc) | fail))
            (refine O.new hA ?_; clear hA; intro z w' hA)
            (repeat' (first | refine stp ?_ | refine stq ?_ | (refine st3 ?_; clear hA; intro w' hA) | (refine st4 ?_; clear hA; intro w' hA) | (refine st2 ?_ ?_ <;> intro hc) | fail))
            have e8 : ((more.length : Int) == 0) = false := by rw [beq_eq_false_iff_ne]; intro e0; exact hmn (List.eq_nil_of_length_eq_zero (by omega))
            have e7 : (fromE (octH ⟨sc, h, ep, l, pay⟩ ++ more) == 0) = false := by rw [beq_eq_false_iff_ne]; exact hE
            (refine C.ret [_] ⟨rfl, trivial⟩ ?_)
            rw [e8, e7]
            exact ⟨rfl, hA.toBelow⟩
        · (repeat' (first | refine stp ?_ | refine stq ?_ | (refine st3 ?_; clear hA; intro w' hA) | (refine st4 ?_; clear hA; intro w' hA) | (refine st2 ?_ ?_ <;> intro hc) | fail))
          (refine K.dr hA [0] rfl ?_; clear hA; intro w' hA)
          (repeat' (first | refine stp ?_ | refine stq ?_ | (refine st3 ?_; clear hA; intro w' hA) | (refine st4 ?_; clear hA; intro w' hA) | (refine st2 ?_ ?_ <;> intro hc) | fail))
          replace hA := hA.keep [1, 0, 0] rfl
          refine O.ef ?_
          have hs1 := hA.has.slv encByte (i := 0) rfl
          refine Ef.appN (octH ⟨sc, h, ep, l, pay⟩) encByte hA rfl rfl rfl hs1.1 rfl (by omega) (by omega) ?_
          clear hA hs1; intro v8 w' hA
          (repeat' (first | refine stp ?_ | refine stq ?_ | (refine st3 ?_; clear hA; intro w' hA) | (refine st4 ?_; clear hA; intro w' hA) | (refine st2 ?_ ?_ <;> intro hc) | fail))
          refine O.ef ?_
          refine Ef.appA (i := 0) more encByte hA rfl rfl rfl rfl (hA.has.sl_old (by simp) hb) rfl (by omega) (by omega) (fun v' => rfl) ?_
          clear hA; intro v9 w' hA
          obtain ⟨A9, c9, rfl, hc9, hm9⟩ := hA.form (i := 0) encByte rfl
          (repeat' (first | refine stp ?_ | refine stq ?_ | (refine st3 ?_; clear hA; intro w' hA) | (refine st4 ?_; clear hA; intro w' hA) | (refine st2 ?_ ?_ <;> intro hc) | fail))
          have hs9 := hA.has.slv encByte (i := 0) rfl
          have hu9 : ∀ x ∈ octH ⟨sc, h, ep, l, pay⟩ ++ more, U8 x := fun x hx => by
            rcases List.mem_append.1 hx with hx | hx
            · exact octH_u8F _ x hx
            · exact hmo x hx
          by_cases hmn : more = []
          · have hE : fromE (octH ⟨sc, h, ep, l, pay⟩ ++ more) = 0 := by rw [hmn, List.append_nil]; exact fromE_octH h0 hk hp
            (refine O.c rfl ((headFrom_good _ A9 c9 _ _ hs9.1 hu9 hs9.2.2 hm9 hE rfl).mono ?_); rintro en w' ⟨v10, rfl, ho, hb⟩; refine ⟨_, rfl, ?_⟩; replace hA := hA.addOwn hb ho; clear hb ho)
            obtain ⟨A10, c10, rfl, hc10, hm10⟩ := hA.form (i := 0) encPart rfl
            (repeat' (first | refine stp ?_ | refine stq ?_ | (refine st3 ?_; clear hA; intro w' hA) | (refine st4 ?_; clear hA; intro w' hA) | (refine st2 ?_ ?_ <;> intro hc) | fail))
            (refine O.new hA ?_; clear hA; intro z w' hA)
            (repeat' (first | refine stp ?_ | refine stq ?_ | (refine st3 ?_; clear hA; intro w' hA) | (refine st4 ?_; clear hA; intro w' hA) | (refine st2 ?_ ?_ <;> intro hc) | fail))
            have e8 : ((more.length : Int) == 0) = true := by rw [hmn]; rfl
            (refine C.ret [_] ⟨rfl, trivial⟩ ?_)
            rw [e8]
            exact ⟨rfl, hA.toBelow⟩
          · have hE : fromE (octH ⟨sc, h, ep, l, pay⟩ ++ more) ≠ 0 := fromE_more (fromE_octH h0 hk hp) hmn
            (refine O.c rfl ((headFrom_bad _ A9 c9 _ _ hs9.1 hu9 hs9.2.2 hm9 hE rfl).mono ?_); rintro en w' ⟨rfl, hb⟩; refine ⟨_, rfl, ?_⟩; replace hA := hA.below hb; clear hb)
            (repeat' (first | refine stp ?_ | refine stq ?_ | (refine st3 ?_; clear hA; intro w' hA) | (refine st4 ?_; clear hA; intro w' hA) | (refine st2 ?_ ?_ <;> intro hc) | fail))
            (refine O.new hA ?_; clear hA; intro z w' hA)
            (repeat' (first | refine stp ?_ | refine stq ?_ | (refine st3 ?_; clear hA; intro w' hA) | (refine st4 ?_; clear hA; intro w' hA) | (refine st2 ?_ ?_ <;> intro hc) | fail))
            have e8 : ((more.length : Int) == 0) = false := by rw [beq_eq_false_iff_ne]; intro e0; exact hmn (List.eq_nil_of_length_eq_zero (by omega))
            have e7 : (fromE (octH ⟨sc, h, ep, l, pay⟩ ++ more) == 0) = false := by rw [beq_eq_false_iff_ne]; exact hE
            (refine C.ret [_] ⟨rfl, trivial⟩ ?_)
            rw [e8, e7]
            exact ⟨rfl, hA.toBelow⟩
  · (refine O.c rfl ((headBytes_bad _ _ _ _ _ l pay _ (hA.has.sl_old (by simp) hl) hk hcap hcm h0).mono ?_); rintro en w' ⟨rfl, hb⟩; refine ⟨_, rfl, ?_⟩; replace hA := hA.below hb; clear hb)
    (repeat' (first | refine stp ?_ | refine stq ?_ | (refine st3 ?_; clear hA; intro w' hA) | (refine st4 ?_; clear hA; intro w' hA) | (refine st2 ?_ ?_ <;> intro hc) | fail))
    by_cases h0' : headCheck ⟨sc', h', ep', l', pay'⟩ = 0
    · (refine O.c rfl ((headBytes_good _ _ _ _ _ l' pay' _ (hA.has.sl_old (by simp) hl') hk' hcap' hcm' h0').mono ?_); rintro en w' ⟨v5, rfl, ho, hb⟩; refine ⟨_, rfl, ?_⟩; replace hA := hA.addOwn hb ho; clear hb ho)
      (repeat' (first | refine stp ?_ | refine stq ?_ | (refine st3 ?_; clear hA; intro w' hA) | (refine st4 ?_; clear hA; intro w' hA) | (refine st2 ?_ ?_ <;> intro hc) | fail))
      (refine C.ret [_] ⟨rfl, trivial⟩ ?_)
      exact ⟨rfl, hA.toBelow⟩
    · (refine O.c rfl ((headBytes_bad _ _ _ _ _ l' pay' _ (hA.has.sl_old (by simp) hl') hk' hcap' hcm' h0').mono ?_); rintro en w' ⟨rfl, hb⟩; refine ⟨_, rfl, ?_⟩; replace hA := hA.below hb; clear hb)
      (repeat' (first | refine stp ?_ | refine stq ?_ | (refine st3 ?_; clear hA; intro w' hA) | (refine st4 ?_; clear hA; intro w' hA) | (refine st2 ?_ ?_ <;> intro hc) | fail))
      (refine C.ret [_] ⟨rfl, trivial⟩ ?_)
      exact ⟨rfl, hA.toBelow⟩
end Go.Proofs.Ytmajepinbldneaa
