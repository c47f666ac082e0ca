/- The walk of law16's HeadParts. -/
import Derived.Test.YtmajepinbldneaaScParts
import Derived.Test.YtmajepinbldneaaEngJ
import Derived.Test.YtmajepinbldneaaHeadL
import Derived.Test.YtmajepinbldneaaHeadQ
import Derived.Test.YtmajepinbldneaaRead
import Derived.Test.YtmajepinbldneaaMem
namespace Go.Proofs.Ytmajepinbldneaa
set_option linter.unusedVariables false
set_option linter.unusedSimpArgs false
open Go.RowKit
attribute [local go_sem ↓] Go.wp_at_zero Go.wp_at_succ
theorem headBytes_sl (sc h ep : Int) (A : Option Addr) (cap : Nat) (l : List Part) (pay : Val) (n : Nat) (w : World) (hl : Sl Part.cells 11 w A l) (hk : ∀ p ∈ l, p.ok) (hcap : l.length ≤ cap) (hcm : cap ≤ 9223372036854775807)
    (hc : headCheck ⟨sc, h, ep, l, pay⟩ = 0) (hn : (octH ⟨sc, h, ep, l, pay⟩).length = n) :
    Calls Try.prog 17 #[.agg #[Value.int .i64 sc, .int .i64 h, .int .i64 ep, .slice A l.length cap, .bool pay.sym, .bool pay.sealed, .int .u64 pay.b0, .int .u64 pay.b1, .int .u64 pay.c0, .int .u64 pay.c1, .int .u64 pay.t0, .int .u64 pay.t1, .int .i64 pay.t]] w
      fun e w' => ∃ A c, e = .returned (.tuple #[.slice A n c, .int .i64 0]) ∧ Sl byteCells 1 w' A (octH ⟨sc, h, ep, l, pay⟩) ∧ Below w.heap.size w w' := by
  refine (headBytes_good sc h ep A cap l pay w hl hk hcap hcm hc).mono ?_
  rintro e w' ⟨v, rfl, ho, hb⟩
  obtain ⟨A', c, rfl, _, hs⟩ := ho.sl encByte
  exact ⟨A', c, by rw [hn], hs, hb⟩
theorem own_cap {α : Type} {f : α → List Value} {sz : Nat} {e : TypeId} {w : World} {base : Nat} {A : Option Addr} {n c : Nat} {xs : List α} (h : Own f sz e w base (.slice A n c) xs) : c ≤ 9223372036854775807 := by
  rcases h.2 with ⟨h1, _⟩ | ⟨g, cap, cur, h1, _, _, _, hm, _⟩
  · injection h1 with _ _ h1; omega
  · injection h1 with _ _ h1; subst h1; simpa [maxLen] using hm
def payT (v : Val) : Val := ⟨v.sym, v.sealed, v.b0, v.b1, v.c0, v.c1, turn1 v.t0, v.t1, v.t⟩
theorem shutB_turned {v : Val} (h : shutB v = true) : shutB (payT v) = true := by
  simp only [shutB, Val.eqB, payT, Bool.and_eq_true, beq_iff_eq] at h ⊢
  grind
theorem octH_u8 (x : Hdr) : ∀ y ∈ octH x, U8 y := by
  intro y hy
  simp only [octH, List.mem_append, List.mem_cons, List.not_mem_nil, or_false, List.mem_flatMap, octP] at hy
  rcases hy with (((hy | hy | hy) | hy) | hy) | ⟨p, _, hy | hy | hy⟩ | hy
  · subst hy; unfold U8; omega
  · subst hy; unfold U8; omega
  · subst hy; unfold U8; omega
  · exact le_u8 _ _ y hy
  · exact le_u8 _ _ y hy
  · exact le_u8 _ _ y hy
  · exact le_u8 _ _ y hy
  · exact octS_u8 _ y hy
  · exact octS_u8 _ y hy
theorem octH_turned (sc h ep : Int) (l : List Part) (pay : Val) (hu : U pay.t0) : octH ⟨sc, h, ep, l, payT pay⟩ ≠ octH ⟨sc, h, ep, l, pay⟩ := by
  intro e
  simp only [octH] at e
  have e1 := List.append_cancel_left e
  have e2 := List.append_cancel_left e1
  exact octS_turned pay hu e2
attribute [local irreducible] layerMay shutB lessB nodeCheck partOk headCheck le octS octP octB octH
attribute [local irreducible] SO SK SD SDA Rt bx ow Qt Ef
set_option maxHeartbeats 2000000 in
set_option maxRecDepth 100000 in
theorem headParts_main (sc h ep k : Int) (A : Option Addr) (cap : Nat) (l : List Part) (pay : Val) (w : World) (hl : Sl Part.cells 11 w A l) (hk : ∀ p ∈ l, p.ok) (hp : pay.ok) (hcap : l.length ≤ cap) (hcm : cap ≤ 9223372036854775807)
    (hc : headCheck ⟨sc, h, ep, l, pay⟩ = 0) (hn : l.length ≤ 60) (h0 : 0 < l.length) :
    Calls Try.prog 3 #[.agg #[Value.int .i64 sc, .int .i64 h, .int .i64 ep, .slice A l.length cap, .bool pay.sym, .bool pay.sealed, .int .u64 pay.b0, .int .u64 pay.b1, .int .u64 pay.c0, .int .u64 pay.c1, .int .u64 pay.t0, .int .u64 pay.t1, .int .i64 pay.t], .int .i64 k] w
      fun e w' => e = .returned (.bool true) ∧ Below w.heap.size w w' := by
  have m3 := Int.lt_tmod_of_pos k (b := (l.length : Int)) (by omega)
  have m4 := Int.tmod_lt_of_pos k (b := (l.length : Int)) (by omega)
  have m1 : 0 ≤ (k.tmod l.length + l.length) % l.length := Int.emod_nonneg _ (by omega)
  have m2 : (k.tmod l.length + l.length) % l.length < l.length := Int.emod_lt_of_pos _ (by omega)
  obtain ⟨kk, hkk⟩ : ∃ kk : Nat, (k.tmod l.length + l.length) % l.length = kk := ⟨((k.tmod l.length + l.length) % l.length).toNat, by omega⟩
  have hkl : kk < l.length := by omega
  (have hA := At.start w; refine C.go cc3 rfl rfl ?_)
  (repeat' (first | refine stp ?_ | refine stq ?_ | (refine st3 ?_; clear hA; intro w' hA) | (refine st2 ?_ ?_ <;> intro hc) | fail))
  (refine O.box hA rfl rfl ?_; clear hA; intro x w' hA)
  (repeat' (first | refine stp ?_ | refine stq ?_ | (refine st3 ?_; clear hA; intro w' hA) | (refine st2 ?_ ?_ <;> intro hc) | fail))
  (refine O.c rfl ((live16_any _).mono ?_); rintro en w' ⟨rfl, hb⟩; refine ⟨_, rfl, ?_⟩; replace hA := hA.below hb; clear hb)
  (repeat' (first | refine stp ?_ | refine stq ?_ | (refine st3 ?_; clear hA; intro w' hA) | (refine st2 ?_ ?_ <;> intro hc) | fail))
  (refine O.c rfl ((headCheck_any _ _ _ _ _ l pay _ (hA.has.sl_old (by simp) hl) hk hcap hcm).mono ?_); rintro en w' ⟨rfl, hb⟩; refine ⟨_, rfl, ?_⟩; replace hA := hA.below hb; clear hb)
  rw [hc]
  (repeat' (first | refine stp ?_ | refine stq ?_ | (refine st3 ?_; clear hA; intro w' hA) | (refine st2 ?_ ?_ <;> intro hc) | fail))
  (refine K.dr hA [0] rfl ?_; clear hA; intro w' hA)
  (repeat' (first | refine stp ?_ | refine stq ?_ | (refine st3 ?_; clear hA; intro w' hA) | (refine st2 ?_ ?_ <;> intro hc) | fail))
  rw [hkk]
  (refine O.new hA ?_; clear hA; intro y w' hA)
  (repeat' (first | refine stp ?_ | refine stq ?_ | (refine st3 ?_; clear hA; intro w' hA) | (refine st2 ?_ ?_ <;> intro hc) | fail))
  (refine K.dr hA [1] rfl ?_; clear hA; intro w' hA)
  (repeat' (first | refine stp ?_ | refine stq ?_ | (refine st3 ?_; clear hA; intro w' hA) | (refine st2 ?_ ?_ <;> intro hc) | fail))
  refine D.q (Qt.slc (l := 0) (h := kk) (m := cap) rfl rfl rfl rfl rfl rfl rfl (by omega) (by omega) (by omega) (by simp)) ?_
  (repeat' (first | refine stp ?_ | refine stq ?_ | (refine st3 ?_; clear hA; intro w' hA) | (refine st2 ?_ ?_ <;> intro hc) | fail))
  refine D.q (Qt.slc (l := kk + 1) (h := l.length) (m := cap) rfl rfl rfl rfl rfl rfl rfl (by omega) (by omega) (by omega) (by simp)) ?_
  refine D.ef ?_
  refine Ef.appN (l.take kk) encPart hA rfl rfl (by simp; omega) (by rw [cutA_zero]; exact (hA.has.sl_old (by simp) hl).take_ kk) rfl (by simp; omega) (by simp; omega) ?_
  clear hA; intro v1 w' hA; refine ⟨hA.pick [2] rfl, ?_⟩
  refine D.ef (Ef.appA (i := 0) (l.drop (kk + 1)) encPart hA rfl rfl rfl (by simp) (by have := (hA.has.sl_old (by simp) hl).drop_ (kk + 1) cap (by omega) (by omega); exact this) rfl (by simp; omega) (by simp; omega) (fun v' => rfl) ?_)
  clear hA; intro v2 w' hA; refine ⟨hA.pick [2] rfl, ?_⟩
  (repeat' (first | refine stp ?_ | refine stq ?_ | (refine st3 ?_; clear hA; intro w' hA) | (refine st2 ?_ ?_ <;> intro hc) | fail))
  obtain ⟨A2, c2, rfl, hc2, hm2⟩ := hA.form (i := 0) encPart rfl
  refine D.ef0 (Ef.stBx hA rfl (i := 1) rfl rfl rfl rfl rfl rfl rfl ?_)
  clear hA; intro w' hA; refine ⟨hA.pick [2] rfl, ?_⟩
  (repeat' (first | refine stp ?_ | refine stq ?_ | (refine st3 ?_; clear hA; intro w' hA) | (refine st2 ?_ ?_ <;> intro hc) | fail))
  (refine O.new hA ?_; clear hA; intro z w' hA)
  (repeat' (first | refine stp ?_ | refine stq ?_ | (refine st3 ?_; clear hA; intro w' hA) | (refine st2 ?_ ?_ <;> intro hc) | fail))
  have hcf : headCheck ⟨sc, h, ep, without l kk, pay⟩ = 0 := headCheck_fewer hc kk
  have hct : headCheck ⟨sc, h, ep, l, payT pay⟩ = 0 := headCheck_pay hc (shutB_turned (headCheck_iff.1 hc).1.2.2.2.2.1)
  (refine O.c rfl ((headBytes_good _ _ _ _ _ l pay _ (hA.has.sl_old (by simp) hl) hk hcap hcm hc).mono ?_); rintro en w' ⟨v3, rfl, ho, hb⟩; refine ⟨_, rfl, ?_⟩; replace hA := hA.addOwn hb ho; clear hb ho)
  obtain ⟨A3, c3, rfl, hc3, hm3⟩ := hA.form (i := 0) encByte rfl
  (repeat' (first | refine stp ?_ | refine stq ?_ | (refine st3 ?_; clear hA; intro w' hA) | (refine st2 ?_ ?_ <;> intro hc) | fail))
  (refine O.c rfl ((headBytes_good _ _ _ _ _ (without l kk) pay _ (hA.has.slv encPart (i := 2) rfl).1 (fun p hp => hk p ((without_sub l kk).subset hp)) hc2 hm2 hcf).mono ?_); rintro en w' ⟨v4, rfl, ho, hb⟩; refine ⟨_, rfl, ?_⟩; replace hA := hA.addOwn hb ho; clear hb ho)
  obtain ⟨A4, c4, rfl, hc4, hm4⟩ := hA.form (i := 0) encByte rfl
  (repeat' (first | refine stp ?_ | refine stq ?_ | (refine st3 ?_; clear hA; intro w' hA) | (refine st2 ?_ ?_ <;> intro hc) | fail))
  (refine O.c rfl ((headBytes_good _ _ _ _ _ l (payT pay) _ (hA.has.sl_old (by simp) hl) hk hcap hcm hct).mono ?_); rintro en w' ⟨v5, rfl, ho, hb⟩; refine ⟨_, rfl, ?_⟩; replace hA := hA.addOwn hb ho; clear hb ho)
  obtain ⟨A5, c5, rfl, hc5, hm5⟩ := hA.form (i := 0) encByte rfl
  have hs : ((strOfNums (octH ⟨sc, h, ep, l, payT pay⟩)).toList == (strOfNums (octH ⟨sc, h, ep, l, pay⟩)).toList) = false := by rw [str_beq (octH_u8 _) (octH_u8 _)]; exact decide_eq_false (octH_turned sc h ep l pay hp.2.2.2.2.1)
  have e1 := octH_length ⟨sc, h, ep, l, pay⟩
  have e2 := octH_length ⟨sc, h, ep, l, payT pay⟩
  have e3 := octH_length ⟨sc, h, ep, without l kk, pay⟩
  have e4 := without_length l kk hkl
  dsimp only at e1 e2 e3
  by_cases hz : kk = 0
  · (repeat' (first | refine stp ?_ | refine stq ?_ | (refine st3 ?_; clear hA; intro w' hA) | (refine st2 ?_ ?_ <;> intro hc) | fail))
    (refine C.ret [_] ⟨rfl, trivial⟩ ?_)
    exact ⟨rfl, hA.toBelow⟩
  obtain ⟨p, hpk⟩ : ∃ p, l[kk]? = some p := ⟨_, List.getElem?_eq_getElem hkl⟩
  obtain ⟨q, hqk⟩ : ∃ q, l[kk - 1]? = some q := ⟨_, List.getElem?_eq_getElem (by omega)⟩
  obtain ⟨ga, oa, rfl, hga, _⟩ := hl.cells hpk
  (repeat' (first | refine stp ?_ | refine stq ?_ | (refine st3 ?_; clear hA; intro w' hA) | (refine st2 ?_ ?_ <;> intro hc) | fail))
  (replace hA := hA.keep [0, 0, 0, 0, 0, 0, 1] rfl)
  (refine O.new hA ?_; clear hA; intro t w' hA)
  (repeat' (first | refine stp ?_ | refine stq ?_ | (refine st3 ?_; clear hA; intro w' hA) | (refine st2 ?_ ?_ <;> intro hc) | fail))
  refine O.ef ?_
  refine Ef.appN l encPart hA rfl rfl rfl (hA.has.sl_old (by simp) hl) rfl (by omega) (by omega) ?_
  clear hA; intro v6 w' hA
  obtain ⟨g6, c6, rfl, hc6, hm6⟩ := hA.formN (i := 0) encPart rfl (by intro e0; rw [e0] at h0; simp at h0)
  (repeat' (first | refine stp ?_ | refine stq ?_ | (refine st3 ?_; clear hA; intro w' hA) | (refine st2 ?_ ?_ <;> intro hc) | fail))
  have cq : Cl w ga (oa + (kk - 1) * 11) (Part.cells q) := hl.cl hqk
  have cp : Cl w ga (oa + kk * 11) (Part.cells p) := hl.cl hpk
  have hk1 : ((kk : Int) - 1).toNat = kk - 1 := by omega
  rw [← hk1] at cq hqk
  (refine K.dr hA [1, 2] rfl ?_; clear hA; intro w' hA)
  (repeat' (first | refine stp ?_ | refine stq ?_ | (refine st3 ?_; clear hA; intro w' hA) | (refine st2 ?_ ?_ <;> intro hc) | fail))
  refine D.ef0 ?_
  refine Ef.stOw (i := 0) (kk := kk) (j := 0) (p := p) (p' := q) encPart hA rfl rfl hpk rfl rfl rfl rfl rfl rfl ?_
  clear hA; intro w' hA; refine ⟨hA.pick [1, 2] rfl, ?_⟩
  (repeat' (first | refine stp ?_ | refine stq ?_ | (refine st3 ?_; clear hA; intro w' hA) | (refine st2 ?_ ?_ <;> intro hc) | fail))
  (refine K.dr hA [1, 2] rfl ?_; clear hA; intro w' hA)
  (repeat' (first | refine stp ?_ | refine stq ?_ | (refine st3 ?_; clear hA; intro w' hA) | (refine st2 ?_ ?_ <;> intro hc) | fail))
  refine D.ef0 ?_
  refine Ef.stOw (i := 0) (kk := ((kk : Int) - 1).toNat) (j := 0) (p := q) (p' := p) encPart hA rfl rfl (by rw [hk1, List.getElem?_set_ne (by omega), ← hk1]; exact hqk) rfl rfl rfl rfl rfl rfl ?_
  clear hA; intro w' hA; refine ⟨hA.pick [1, 2] rfl, ?_⟩
  (repeat' (first | refine stp ?_ | refine stq ?_ | (refine st3 ?_; clear hA; intro w' hA) | (refine st2 ?_ ?_ <;> intro hc) | fail))
  have hs6 := (hA.has.slv encPart (i := 0) rfl)
  rw [hk1] at hs6
  have hl6 : ((l.set kk q).set (kk - 1) p).length = l.length := by simp
  have hct6 : headCheck ⟨sc, h, ep, (l.set kk q).set (kk - 1) p, pay⟩ = 1 := headCheck_turned hc kk (by omega) hpk (by rw [← hk1]; exact hqk)
  have call6 := headCheck_any sc h ep (some ⟨g6, 0, none⟩) c6 ((l.set kk q).set (kk - 1) p) pay w' hs6.1 (fun r hr => by
    rcases List.mem_or_eq_of_mem_set hr with hr | rfl
    · rcases List.mem_or_eq_of_mem_set hr with hr | rfl
      · exact hk r hr
      · exact hk _ (List.mem_of_getElem? hqk)
    · exact hk _ (List.mem_of_getElem? hpk)) hs6.2.2 hm6
  rw [hct6, hl6] at call6
  (refine O.c rfl ((call6).mono ?_); rintro en w' ⟨rfl, hb⟩; refine ⟨_, rfl, ?_⟩; replace hA := hA.below hb; clear hb)
  (repeat' (first | refine stp ?_ | refine stq ?_ | (refine st3 ?_; clear hA; intro w' hA) | (refine st2 ?_ ?_ <;> intro hc) | fail))
  (refine C.ret [_] ⟨rfl, trivial⟩ ?_)
  exact ⟨rfl, hA.toBelow⟩
set_option maxHeartbeats 1000000 in
set_option maxRecDepth 100000 in
theorem headParts_any (sc h ep k : Int) (A : Option Addr) (cap : Nat) (l : List Part) (pay : Val) (w : World) (hl : Sl Part.cells 11 w A l) (hk : ∀ p ∈ l, p.ok) (hp : pay.ok) (hcap : l.length ≤ cap) (hcm : cap ≤ 9223372036854775807) :
    Calls Try.prog 3 #[.agg #[Value.int .i64 sc, .int .i64 h, .int .i64 ep, .slice A l.length cap, .bool pay.sym, .bool pay.sealed, .int .u64 pay.b0, .int .u64 pay.b1, .int .u64 pay.c0, .int .u64 pay.c1, .int .u64 pay.t0, .int .u64 pay.t1, .int .i64 pay.t], .int .i64 k] w
      fun e w' => e = .returned (.bool true) ∧ Below w.heap.size w w' := by
  by_cases hm : l.length ≤ 60 ∧ headCheck ⟨sc, h, ep, l, pay⟩ = 0 ∧ 0 < l.length
  · exact headParts_main sc h ep k A cap l pay w hl hk hp hcap hcm hm.2.1 hm.1 hm.2.2
  · (have hA := At.start w; refine C.go cc3 rfl rfl ?_)
    (repeat' (first | refine stp ?_ | refine stq ?_ | (refine st3 ?_; clear hA; intro w' hA) | (refine st2 ?_ ?_ <;> intro hc) | fail))
    (refine O.box hA rfl rfl ?_; clear hA; intro x w' hA)
    (repeat' (first | refine stp ?_ | refine stq ?_ | (refine st3 ?_; clear hA; intro w' hA) | (refine st2 ?_ ?_ <;> intro hc) | fail))
    (refine O.c rfl ((live16_any _).mono ?_); rintro en w' ⟨rfl, hb⟩; refine ⟨_, rfl, ?_⟩; replace hA := hA.below hb; clear hb)
    by_cases c1 : 60 < l.length
    · (repeat' (first | refine stp ?_ | refine stq ?_ | (refine st3 ?_; clear hA; intro w' hA) | (refine st2 ?_ ?_ <;> intro hc) | fail))
      (refine C.ret [_] ⟨rfl, trivial⟩ ?_)
      exact ⟨rfl, hA.toBelow⟩
    · (repeat' (first | refine stp ?_ | refine stq ?_ | (refine st3 ?_; clear hA; intro w' hA) | (refine st2 ?_ ?_ <;> intro hc) | fail))
      (refine O.c rfl ((headCheck_any _ _ _ _ _ l pay _ (hA.has.sl_old (by simp) hl) hk hcap hcm).mono ?_); rintro en w' ⟨rfl, hb⟩; refine ⟨_, rfl, ?_⟩; replace hA := hA.below hb; clear hb)
      by_cases c2 : headCheck ⟨sc, h, ep, l, pay⟩ = 0
      · have c3 : l.length = 0 := by omega
        (repeat' (first | refine stp ?_ | refine stq ?_ | (refine st3 ?_; clear hA; intro w' hA) | (refine st2 ?_ ?_ <;> intro hc) | fail))
        all_goals (refine C.ret [_] ⟨rfl, trivial⟩ ?_)
        all_goals exact ⟨rfl, hA.toBelow⟩
      · (repeat' (first | refine stp ?_ | refine stq ?_ | (refine st3 ?_; clear hA; intro w' hA) | (refine st2 ?_ ?_ <;> intro hc) | fail))
        all_goals (refine C.ret [_] ⟨rfl, trivial⟩ ?_)
        all_goals exact ⟨rfl, hA.toBelow⟩
end Go.Proofs.Ytmajepinbldneaa
