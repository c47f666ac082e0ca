/- The walk of head.Bytes. -/
import Derived.Test.YtmajepinbldneaaHeadC
import Derived.Test.YtmajepinbldneaaOct
namespace Go.Proofs.Ytmajepinbldneaa
set_option linter.unusedVariables false
set_option linter.unusedSimpArgs false
open Go.RowKit
attribute [local go_sem ↓] Go.wp_at_zero Go.wp_at_succ
attribute [local irreducible] layerMay shutB lessB nodeCheck partOk headCheck le octS octP octB
theorem headPut8 (base : Nat) (v : Value) (xs : List Int) (n : Int) (w : World) (hn : U n) (hown : Own byteCells 1 5 w base v xs) (hbase : base ≤ w.heap.size) (hl : xs.length ≤ 1000000000) :
    Calls Try.prog 51 #[v, .int .u64 n, .int .i64 8] w (RetGrows base w v (xs ++ le n 8)) := headPut_any base v xs n 8 w hn (by omega) hown hbase hl
theorem headPut4 (base : Nat) (v : Value) (xs : List Int) (n : Int) (w : World) (hn : U n) (hown : Own byteCells 1 5 w base v xs) (hbase : base ≤ w.heap.size) (hl : xs.length ≤ 1000000000) :
    Calls Try.prog 51 #[v, .int .u64 n, .int .i64 4] w (RetGrows base w v (xs ++ le n 4)) := headPut_any base v xs n 4 w hn (by omega) hown hbase hl
theorem sealOctets_anyV (v : Val) (w : World) : Calls Try.prog 52 #[.agg #[.int .u64 v.c0, .int .u64 v.c1, .int .u64 v.t0, .int .u64 v.t1]] w (RetOwn byteCells 1 5 w (octS v)) := by
  unfold octS
  exact sealOctets_any _ _ _ _ w
set_option maxHeartbeats 1000000 in
set_option maxRecDepth 100000 in
theorem headBytes_bad (sc h ep : Int) (A : Option Addr) (cap : Nat) (l : List Part) (pay : Val) (w : World) (hl : Sl Part.cells 11 w A l) (hk : ∀ p ∈ l, p.ok) (hcap : l.length ≤ cap) (hcm : cap ≤ 9223372036854775807)
    (hc : headCheck ⟨sc, h, ep, l, pay⟩ ≠ 0) :
    Calls Try.prog 17 #[.agg #[.int .i64 sc, .int .i64 h, .int .i64 ep, .slice A l.length cap, .bool pay.sym, .bool pay.sealed, .int .u64 pay.b0, .int .u64 pay.b1, .int .u64 pay.c0, .int .u64 pay.c1, .int .u64 pay.t0, .int .u64 pay.t1, .int .i64 pay.t]] w
      fun e w' => e = .returned (.tuple #[.slice none 0 0, .int .i64 (headCheck ⟨sc, h, ep, l, pay⟩)]) ∧ Below w.heap.size w w' := by
  have HM := Lib.hid hcm; clear hcm
  have HL := Lib.hid hl; clear hl
  have HK := Lib.hid hk; clear hk
  have hcb : (headCheck ⟨sc, h, ep, l, pay⟩ != 0) = true := by simp [hc]
  clear hc
  go_enter Try.func17, Try.ntmps17
  go_wp2_with (go_at_call 16; refine (headCheck_any _ _ _ _ _ l pay _ ?_ ?_ ?_ ?_).mono ?_; (exact HL.out.below (by repeat (first | exact Below.refl _ _ | assumption | refine Below.drew ?_ | refine Below.drewN ?_ _ | refine Below.alloc ?_ (by first | omega | (simp; done) | (simp; omega)) _ | refine Below.setCell ?_ (by first | omega | (simp; done) | (simp; omega)) _ | refine Below.trans ?_ (Below.mono ‹Below _ _ _› (by first | omega | (simp; done) | (simp; omega)))))); (exact HK.out); (exact hcap); (exact HM.out); rintro e w1 ⟨rfl, hb1⟩)
  go_ret2
  exact ⟨rfl, (by repeat (first | exact Below.refl _ _ | assumption | refine Below.drew ?_ | refine Below.drewN ?_ _ | refine Below.alloc ?_ (by first | omega | (simp; done) | (simp; omega)) _ | refine Below.setCell ?_ (by first | omega | (simp; done) | (simp; omega)) _ | refine Below.trans ?_ (Below.mono ‹Below _ _ _› (by first | omega | (simp; done) | (simp; omega)))))⟩
set_option maxHeartbeats 1000000 in
set_option maxRecDepth 100000 in
theorem headBytes_good (sc h ep : Int) (A : Option Addr) (cap : Nat) (l : List Part) (pay : Val) (w : World) (hl : Sl Part.cells 11 w A l) (hk : ∀ p ∈ l, p.ok) (hcap : l.length ≤ cap) (hcm : cap ≤ 9223372036854775807)
    (hc : headCheck ⟨sc, h, ep, l, pay⟩ = 0) :
    Calls Try.prog 17 #[.agg #[.int .i64 sc, .int .i64 h, .int .i64 ep, .slice A l.length cap, .bool pay.sym, .bool pay.sealed, .int .u64 pay.b0, .int .u64 pay.b1, .int .u64 pay.c0, .int .u64 pay.c1, .int .u64 pay.t0, .int .u64 pay.t1, .int .i64 pay.t]] w
      fun e w' => ∃ v, e = .returned (.tuple #[v, .int .i64 0]) ∧ Own byteCells 1 5 w' w.heap.size v (octH ⟨sc, h, ep, l, pay⟩) ∧ Below w.heap.size w w' := by
  obtain ⟨ep1, ep2, hlen⟩ : 1 ≤ ep ∧ ep ≤ 1099511627776 ∧ (l.length : Int) ≤ 32768 := headCheck_parts hc
  have hlen' : l.length ≤ 32768 := by omega
  have CH : Hid (∀ w1, Below w.heap.size w w1 → Calls Try.prog 16 #[.agg #[Value.int .i64 sc, .int .i64 h, .int .i64 ep, .slice A l.length cap, .bool pay.sym, .bool pay.sealed, .int .u64 pay.b0, .int .u64 pay.b1, .int .u64 pay.c0, .int .u64 pay.c1, .int .u64 pay.t0, .int .u64 pay.t1, .int .i64 pay.t]] w1 fun e w' => e = .returned (.int .i64 0) ∧ Below w1.heap.size w1 w') := fun w1 hb => by
    have := headCheck_any sc h ep A cap l pay w1 (hl.below hb) hk hcap hcm
    rwa [hc] at this
  have HM := Lib.hid hcm; clear hcm
  have HL := Lib.hid hl; clear hl
  have HK := Lib.hid hk; clear hk hc
  have UE : Hid (U ep) := ⟨by omega, by omega⟩
  have UL : Hid (U (l.length : Int)) := ⟨by omega, by omega⟩
  go_enter Try.func17, Try.ntmps17
  go_wp2_with (first
    | (go_at_call 16; refine (CH.out _ ?_).mono ?_; (exact (by repeat (first | exact Below.refl _ _ | assumption | refine Below.drew ?_ | refine Below.drewN ?_ _ | refine Below.alloc ?_ (by first | omega | (simp; done) | (simp; omega)) _ | refine Below.setCell ?_ (by first | omega | (simp; done) | (simp; omega)) _ | refine Below.trans ?_ (Below.mono ‹Below _ _ _› (by first | omega | (simp; done) | (simp; omega)))))); rintro e w1 ⟨rfl, hb1⟩; have hx1 : Box w1 w.heap.size #[Value.int .i64 sc, .int .i64 h, .int .i64 ep, .slice A l.length cap, .bool pay.sym, .bool pay.sealed, .int .u64 pay.b0, .int .u64 pay.b1, .int .u64 pay.c0, .int .u64 pay.c1, .int .u64 pay.t0, .int .u64 pay.t1, .int .i64 pay.t] := Box.below (Box.new _ _ _) hb1 (by simp); have hz1 := hb1.size; simp at hz1; have hq1 : w.heap.size < w1.heap.size := by omega))
  refine (headPut8 (w.heap.size + 1) _ [1, sc % 256, h % 256] ep _ UE.out (Own.lit encByte w1 w1.heap.size _ rfl rfl (by omega) (by simp)) (by simp; omega) (by simp)).mono ?_
  rintro e w2 ⟨v2, rfl, hg2⟩
  have o1 : Own byteCells 1 5 (w1.alloc (.cells #[.int .u8 1, .int .u8 (sc % 256), .int .u8 (h % 256)] 5)) (w.heap.size + 1) (.slice (some ⟨w1.heap.size, 0, none⟩) 3 3) [1, sc % 256, h % 256] := Own.lit encByte w1 w1.heap.size _ rfl rfl (by omega) (by simp)
  obtain ⟨hx2, hn2, hq2⟩ := hg2.box (Box.alloc hx1 hq1 _) (by simp; omega) (by simp [Value.ownBlock]; omega)
  have hs2 := hg2.grown.size
  simp at hs2
  have hb2 : Below w.heap.size w w2 := Below.trans (by have := hb1; exact (by repeat (first | exact Below.refl _ _ | assumption | refine Below.drew ?_ | refine Below.drewN ?_ _ | refine Below.alloc ?_ (by first | omega | (simp; done) | (simp; omega)) _ | refine Below.setCell ?_ (by first | omega | (simp; done) | (simp; omega)) _ | refine Below.trans ?_ (Below.mono ‹Below _ _ _› (by first | omega | (simp; done) | (simp; omega)))))) ((hg2.below o1 (by simp; omega)).mono (by omega))
  have O2 := Lib.hid hg2.own
  clear o1 hg2 hx1 hq1 hb1 hz1
  go_wp2_with fail
  refine (headPut4 (w.heap.size + 1) v2 _ _ _ UL.out O2.out (by omega) (by simp [le_length])).mono ?_
  rintro e w3 ⟨v3, rfl, hg3⟩
  obtain ⟨hx3, hn3, hq3⟩ := hg3.box hx2 hq2 hn2
  have hs3 := hg3.grown.size
  have hb3 : Below w.heap.size w w3 := hb2.trans ((hg3.below O2.out (by omega)).mono (by omega))
  have O3 := Lib.hid hg3.own
  clear hg3 hx2 hq2 hn2 hb2 O2
  go_wp2_with fail
  obtain ⟨pre, hpre⟩ : ∃ pre, pre = [1, sc % 256, h % 256] ++ le ep 8 ++ le l.length 4 := ⟨_, rfl⟩
  have hpl : pre.length = 15 := by rw [hpre]; simp [le_length]
  have O4 : Hid (Own byteCells 1 5 w3 (w.heap.size + 1) v3 pre) := by rw [hpre]; exact O3.out
  have HP := Lib.hid hpre; clear hpre O3
  have HPL := Lib.hid hpl; clear hpl
  go_loopw [5, 33] (fun b i wr => ∃ k : Nat, i = .int .i64 k ∧ k ≤ l.length ∧ Own byteCells 1 5 wr (w.heap.size + 1) b (pre ++ (l.take k).flatMap octP) ∧ Below w.heap.size w wr ∧ Box wr w.heap.size #[Value.int .i64 sc, .int .i64 h, .int .i64 ep, .slice A l.length cap, .bool pay.sym, .bool pay.sealed, .int .u64 pay.b0, .int .u64 pay.b1, .int .u64 pay.c0, .int .u64 pay.c1, .int .u64 pay.t0, .int .u64 pay.t1, .int .i64 pay.t] ∧ w.heap.size < wr.heap.size ∧ b.ownBlock ≠ some w.heap.size)
    (fun _ i _ => l.length - (intOf i).toNat)
  case atStart => exact ⟨0, rfl, by omega, by simpa using O4.out, hb3, hx3, hq3, hn3⟩
  case round =>
    obtain ⟨k, rfl, hk, hown, hbr, hxr, hzr, hnr⟩ := hrel
    have OR := Lib.hid hown; clear hown hx3 hb3 O4
    have hlr : (pre ++ (l.take k).flatMap octP).length ≤ 15 + 48 * 32768 := by
      rw [List.length_append, HPL.out, octPs_length, List.length_take]; omega
    have HLR := Lib.hid hlr; clear hlr
    by_cases hlt : k < l.length
    · obtain ⟨p, hp⟩ : ∃ p, l[k]? = some p := ⟨_, List.getElem?_eq_getElem hlt⟩
      have hpo := HK.out p (List.mem_of_getElem? hp)
      obtain ⟨g, o, rfl, hg, e0, e1, e2, e3, e4, e5, e6, e7, e8, e9, e10⟩ := (HL.out.below hbr).part hp
      have HP1 := Lib.hid hp; clear hp
      go_wp2_with fail
      have hp0 : Box (wr.alloc (.cells #[Value.int .u64 p.s.i, .int .u64 p.s.j, .bool p.w.sym, .bool p.w.sealed, .int .u64 p.w.b0, .int .u64 p.w.b1, .int .u64 p.w.c0, .int .u64 p.w.c1, .int .u64 p.w.t0, .int .u64 p.w.t1, .int .i64 p.w.t] 41)) wr.heap.size #[Value.int .u64 p.s.i, .int .u64 p.s.j, .bool p.w.sym, .bool p.w.sealed, .int .u64 p.w.b0, .int .u64 p.w.b1, .int .u64 p.w.c0, .int .u64 p.w.c1, .int .u64 p.w.t0, .int .u64 p.w.t1, .int .i64 p.w.t] := Box.new _ _ _
      have hx0 := Box.alloc hxr hzr (.cells #[Value.int .u64 p.s.i, .int .u64 p.s.j, .bool p.w.sym, .bool p.w.sealed, .int .u64 p.w.b0, .int .u64 p.w.b1, .int .u64 p.w.c0, .int .u64 p.w.c1, .int .u64 p.w.t0, .int .u64 p.w.t1, .int .i64 p.w.t] 41)
      have n0 := OR.out.ne_new
      have B0 : Below w.heap.size w (wr.alloc (.cells #[Value.int .u64 p.s.i, .int .u64 p.s.j, .bool p.w.sym, .bool p.w.sealed, .int .u64 p.w.b0, .int .u64 p.w.b1, .int .u64 p.w.c0, .int .u64 p.w.c1, .int .u64 p.w.t0, .int .u64 p.w.t1, .int .i64 p.w.t] 41)).drew := (by repeat (first | exact Below.refl _ _ | assumption | refine Below.drew ?_ | refine Below.drewN ?_ _ | refine Below.alloc ?_ (by first | omega | (simp; done) | (simp; omega)) _ | refine Below.setCell ?_ (by first | omega | (simp; done) | (simp; omega)) _ | refine Below.trans ?_ (Below.mono ‹Below _ _ _› (by first | omega | (simp; done) | (simp; omega)))))
      clear hbr
      go_region_held3 (fun w' => Box w' wr.heap.size #[Value.int .u64 p.s.i, .int .u64 p.s.j, .bool p.w.sym, .bool p.w.sealed, .int .u64 p.w.b0, .int .u64 p.w.b1, .int .u64 p.w.c0, .int .u64 p.w.c1, .int .u64 p.w.t0, .int .u64 p.w.t1, .int .i64 p.w.t]) (first | exact hp0 | exact hp4 | exact hp5 | exact hp6 | exact hp7)
        (first
          | (go_at_call_of 51 (Value.int IntKind.u64 p.s.i); refine (headPut8 (w.heap.size + 1) u5 _ p.s.i _ hpo.1.1 (OR.out.alloc _).drew ?_ ?_).mono ?_; (simp; omega); (have := HLR.out; omega); rintro e w4 ⟨v4, rfl, hg4⟩; obtain ⟨hp4, n4, q4⟩ := hg4.box hp0.drew (by simp) n0; obtain ⟨hx4, m4, r4⟩ := hg4.box hx0.drew (by simp; omega) hnr; have B4 := B0.trans ((hg4.below (OR.out.alloc _).drew (by simp; omega)).mono (by omega)); have z4 := hg4.grown.size; simp at z4; have O4 := Lib.hid hg4.own)
          | (go_at_call_of 51 (Value.int IntKind.u64 p.s.j); refine (headPut8 (w.heap.size + 1) v4 _ p.s.j _ hpo.1.2 O4.out ?_ ?_).mono ?_; (omega); (have := HLR.out; simp [le_length]; simp at this; omega); rintro e w5 ⟨v5, rfl, hg5⟩; obtain ⟨hp5, n5, q5⟩ := hg5.box hp4 q4 n4; obtain ⟨hx5, m5, r5⟩ := hg5.box hx4 r4 m4; have B5 := B4.trans ((hg5.below O4.out (by omega)).mono (by omega)); have z5 := hg5.grown.size; have O5 := Lib.hid hg5.own)
          | (go_at_call 52; refine (sealOctets_anyV p.w _).mono ?_; rintro e w6 ⟨v6, rfl, ho6, hb6⟩; have hp6 := hp5.below hb6 q5; have hx6 := hx5.below hb6 r5; have B6 := B5.trans (hb6.mono (by omega)); have z6 := hb6.size; have O6 := Lib.hid (O5.out.below hb6); obtain ⟨A6, c6, rfl, _, hs6⟩ := ho6.sl encByte)
          | ((refine step_app (by rfl) encByte _ (w.heap.size + 1) 35 5 _ _ Try.underlying35 infoU8 rfl _ _ (by rfl) v5 _ (by rfl) O6.out A6 _ c6 (octS p.w) (by rfl) rfl hs6 (by have := HLR.out; simp [le_length, octS_length]; simp at this; omega) (by have := HLR.out; simp [le_length, octS_length]; simp at this; omega) (by omega) ?_); intro v7 w7 hg7; obtain ⟨hp7, n7, q7⟩ := hg7.box hp6 (by omega) n5; obtain ⟨hx7, m7, r7⟩ := hg7.box hx6 (by omega) m5; have B7 := B6.trans ((hg7.below O6.out (by omega)).mono (by omega)); have O7 := Lib.hid hg7.own))
      go_wp2
      go_roundw
      case rel =>
        refine ⟨k + 1, by go_num, by omega, ?_, B7, hx7, by omega, m7⟩
        have e : l.take (k + 1) = l.take k ++ [p] := by rw [List.take_add_one, HP1.out]; rfl
        have := O7.out
        simp only [List.append_assoc] at this
        rw [e, List.flatMap_append]
        simpa [octP, List.append_assoc] using this
      case measure => simp [intOf]; omega
    · have hkl : k = l.length := by omega
      subst hkl
      have hb8 : (pre ++ (l.take l.length).flatMap octP).length + (octS pay).length ≤ 15 + 48 * 32768 + 32 := by have := HLR.out; rw [octS_length]; omega
      have HB8 := Lib.hid hb8; clear hb8
      go_wp2_with (first
        | (go_at_call 52; refine (sealOctets_anyV pay _).mono ?_; rintro e w6 ⟨v6, rfl, ho6, hb6⟩; have B6 := hbr.trans (hb6.mono (by omega)); have z6 := hb6.size; have O6 := Lib.hid (OR.out.below hb6); obtain ⟨A6, c6, rfl, _, hs6⟩ := ho6.sl encByte)
        | (at_builtin; refine wpList_app rfl encByte _ (w.heap.size + 1) 35 5 _ _ Try.underlying35 infoU8 rfl _ _ (by rfl) u5 _ (by rfl) O6.out A6 _ c6 (octS pay) (by rfl) rfl hs6 ?_ ?_ ?_ ?_; (have := HB8.out; omega); (have := HB8.out; omega); omega))
      intro v7 w7 hg7
      have B7 := B6.trans ((hg7.below O6.out (by omega)).mono (by omega))
      have O7 := Lib.hid hg7.own
      go_wp2
      go_ret2
      refine ⟨_, rfl, ?_, B7⟩
      have := O7.out.mono (base' := w.heap.size) (by omega)
      rw [HP.out] at this
      simpa [octH, List.append_assoc] using this
end Go.Proofs.Ytmajepinbldneaa
