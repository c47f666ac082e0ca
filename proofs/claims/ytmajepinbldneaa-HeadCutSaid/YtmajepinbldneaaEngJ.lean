/- The steps of a walk, their side goals found by tactics. -/
import Derived.Test.YtmajepinbldneaaEngT
namespace Go.Proofs.Ytmajepinbldneaa
set_option linter.unusedVariables false
set_option linter.unusedSimpArgs false
open Go.RowKit
section
variable {P : Program} {n : Nat} {k : List KI} {R : Env → World → Prop} {e : Env} {w : World} {S : World → Prop}
theorem K.splitD {c : Od} {x y : SC} {p : Prop} {inst : Decidable p} (hg : ev e c = some (.bool (@decide p inst))) (h1 : p → SK P n (.code x :: k) R e w) (h2 : ¬ p → SK P n (.code y :: k) R e w) : SK P n (.code (.cond c x y) :: k) R e w := K.split hg (fun hc => h1 (of_decide_eq_true hc)) (fun hc => h2 (of_decide_eq_false hc))
theorem K.splitE {c : Od} {x y : SC} {a b : Int} (hg : ev e c = some (.bool (a == b))) (h1 : a = b → SK P n (.code x :: k) R e w) (h2 : a ≠ b → SK P n (.code y :: k) R e w) : SK P n (.code (.cond c x y) :: k) R e w := K.split hg (fun hc => h1 (eq_of_beq hc)) (fun hc => h2 (beq_eq_false_iff_ne.1 hc))
theorem K.splitN {c : Od} {x y : SC} {a b : Int} (hg : ev e c = some (.bool (a != b))) (h1 : a ≠ b → SK P n (.code x :: k) R e w) (h2 : a = b → SK P n (.code y :: k) R e w) : SK P n (.code (.cond c x y) :: k) R e w := K.split hg (fun hc => h1 (bne_iff_ne.1 hc)) (fun hc => h2 (bne_eq_false_iff_eq.1 hc))
theorem O.splitD {d g : Nat} {want : Bool} {s : SOp} {l : List St} {p : Prop} {inst : Decidable p} (hg : fnd e g = some (.bool (@decide p inst))) (h1 : p → SO P n (⟨some d, some (g, want), s⟩ :: l) k R ((g, .bool true) :: e) w) (h2 : ¬ p → SO P n (⟨some d, some (g, want), s⟩ :: l) k R ((g, .bool false) :: e) w) : SO P n (⟨some d, some (g, want), s⟩ :: l) k R e w := O.split hg (fun hc => h1 (of_decide_eq_true hc)) (fun hc => h2 (of_decide_eq_false hc))
theorem O.splitE {d g : Nat} {want : Bool} {s : SOp} {l : List St} {a b : Int} (hg : fnd e g = some (.bool (a == b))) (h1 : a = b → SO P n (⟨some d, some (g, want), s⟩ :: l) k R ((g, .bool true) :: e) w) (h2 : a ≠ b → SO P n (⟨some d, some (g, want), s⟩ :: l) k R ((g, .bool false) :: e) w) : SO P n (⟨some d, some (g, want), s⟩ :: l) k R e w := O.split hg (fun hc => h1 (eq_of_beq hc)) (fun hc => h2 (beq_eq_false_iff_ne.1 hc))
theorem O.splitN {d g : Nat} {want : Bool} {s : SOp} {l : List St} {a b : Int} (hg : fnd e g = some (.bool (a != b))) (h1 : a ≠ b → SO P n (⟨some d, some (g, want), s⟩ :: l) k R ((g, .bool true) :: e) w) (h2 : a = b → SO P n (⟨some d, some (g, want), s⟩ :: l) k R ((g, .bool false) :: e) w) : SO P n (⟨some d, some (g, want), s⟩ :: l) k R e w := O.split hg (fun hc => h1 (bne_iff_ne.1 hc)) (fun hc => h2 (bne_eq_false_iff_eq.1 hc))
theorem H.splitD {d : Option Nat} {g : Nat} {want : Bool} {s : SOp} {l t : List St} {p : Prop} {inst : Decidable p} (hg : fnd e g = some (.bool (@decide p inst))) (h1 : p → SHO P n (⟨d, some (g, want), s⟩ :: l) t k R ((g, .bool true) :: e) w) (h2 : ¬ p → SHO P n (⟨d, some (g, want), s⟩ :: l) t k R ((g, .bool false) :: e) w) : SHO P n (⟨d, some (g, want), s⟩ :: l) t k R e w := H.split hg (fun hc => h1 (of_decide_eq_true hc)) (fun hc => h2 (of_decide_eq_false hc))
theorem H.splitE {d : Option Nat} {g : Nat} {want : Bool} {s : SOp} {l t : List St} {a b : Int} (hg : fnd e g = some (.bool (a == b))) (h1 : a = b → SHO P n (⟨d, some (g, want), s⟩ :: l) t k R ((g, .bool true) :: e) w) (h2 : a ≠ b → SHO P n (⟨d, some (g, want), s⟩ :: l) t k R ((g, .bool false) :: e) w) : SHO P n (⟨d, some (g, want), s⟩ :: l) t k R e w := H.split hg (fun hc => h1 (eq_of_beq hc)) (fun hc => h2 (beq_eq_false_iff_ne.1 hc))
theorem H.splitN {d : Option Nat} {g : Nat} {want : Bool} {s : SOp} {l t : List St} {a b : Int} (hg : fnd e g = some (.bool (a != b))) (h1 : a ≠ b → SHO P n (⟨d, some (g, want), s⟩ :: l) t k R ((g, .bool true) :: e) w) (h2 : a = b → SHO P n (⟨d, some (g, want), s⟩ :: l) t k R ((g, .bool false) :: e) w) : SHO P n (⟨d, some (g, want), s⟩ :: l) t k R e w := H.split hg (fun hc => h1 (bne_iff_ne.1 hc)) (fun hc => h2 (bne_eq_false_iff_eq.1 hc))
theorem D.splitD {d : Option Nat} {g : Nat} {want : Bool} {s : SOp} {t : DT} {p : Prop} {inst : Decidable p} (hg : fnd e g = some (.bool (@decide p inst))) (h1 : p → SD P n S (.quiet ⟨d, some (g, want), s⟩ t) k R ((g, .bool true) :: e) w) (h2 : ¬ p → SD P n S (.quiet ⟨d, some (g, want), s⟩ t) k R ((g, .bool false) :: e) w) : SD P n S (.quiet ⟨d, some (g, want), s⟩ t) k R e w := D.split hg (fun hc => h1 (of_decide_eq_true hc)) (fun hc => h2 (of_decide_eq_false hc))
theorem D.splitE {d : Option Nat} {g : Nat} {want : Bool} {s : SOp} {t : DT} {a b : Int} (hg : fnd e g = some (.bool (a == b))) (h1 : a = b → SD P n S (.quiet ⟨d, some (g, want), s⟩ t) k R ((g, .bool true) :: e) w) (h2 : a ≠ b → SD P n S (.quiet ⟨d, some (g, want), s⟩ t) k R ((g, .bool false) :: e) w) : SD P n S (.quiet ⟨d, some (g, want), s⟩ t) k R e w := D.split hg (fun hc => h1 (eq_of_beq hc)) (fun hc => h2 (beq_eq_false_iff_ne.1 hc))
theorem D.splitN {d : Option Nat} {g : Nat} {want : Bool} {s : SOp} {t : DT} {a b : Int} (hg : fnd e g = some (.bool (a != b))) (h1 : a ≠ b → SD P n S (.quiet ⟨d, some (g, want), s⟩ t) k R ((g, .bool true) :: e) w) (h2 : a = b → SD P n S (.quiet ⟨d, some (g, want), s⟩ t) k R ((g, .bool false) :: e) w) : SD P n S (.quiet ⟨d, some (g, want), s⟩ t) k R e w := D.split hg (fun hc => h1 (bne_iff_ne.1 hc)) (fun hc => h2 (bne_eq_false_iff_eq.1 hc))
theorem D.esplitD {d : Option Nat} {g : Nat} {want : Bool} {s : SOp} {t u : DT} {p : Prop} {inst : Decidable p} (hg : fnd e g = some (.bool (@decide p inst))) (h1 : p → SD P n S (.eff ⟨d, some (g, want), s⟩ t u) k R ((g, .bool true) :: e) w) (h2 : ¬ p → SD P n S (.eff ⟨d, some (g, want), s⟩ t u) k R ((g, .bool false) :: e) w) : SD P n S (.eff ⟨d, some (g, want), s⟩ t u) k R e w := D.esplit hg (fun hc => h1 (of_decide_eq_true hc)) (fun hc => h2 (of_decide_eq_false hc))
theorem D.esplitE {d : Option Nat} {g : Nat} {want : Bool} {s : SOp} {t u : DT} {a b : Int} (hg : fnd e g = some (.bool (a == b))) (h1 : a = b → SD P n S (.eff ⟨d, some (g, want), s⟩ t u) k R ((g, .bool true) :: e) w) (h2 : a ≠ b → SD P n S (.eff ⟨d, some (g, want), s⟩ t u) k R ((g, .bool false) :: e) w) : SD P n S (.eff ⟨d, some (g, want), s⟩ t u) k R e w := D.esplit hg (fun hc => h1 (eq_of_beq hc)) (fun hc => h2 (beq_eq_false_iff_ne.1 hc))
theorem D.esplitN {d : Option Nat} {g : Nat} {want : Bool} {s : SOp} {t u : DT} {a b : Int} (hg : fnd e g = some (.bool (a != b))) (h1 : a ≠ b → SD P n S (.eff ⟨d, some (g, want), s⟩ t u) k R ((g, .bool true) :: e) w) (h2 : a = b → SD P n S (.eff ⟨d, some (g, want), s⟩ t u) k R ((g, .bool false) :: e) w) : SD P n S (.eff ⟨d, some (g, want), s⟩ t u) k R e w := D.esplit hg (fun hc => h1 (bne_iff_ne.1 hc)) (fun hc => h2 (bne_eq_false_iff_eq.1 hc))
theorem isK {q : Prop} (h : q → SK P n k R e w) : q → SK P n k R e w := h
theorem isN {q : Prop} {d : Nat} {s : SOp} {l : List St} (h : q → SO P n (⟨some d, none, s⟩ :: l) k R e w) : q → SO P n (⟨some d, none, s⟩ :: l) k R e w := h
theorem isG {q : Prop} {d : Option Nat} {g : Nat × Bool} {s : SOp} {l : List St} (h : q → SO P n (⟨d, some g, s⟩ :: l) k R e w) : q → SO P n (⟨d, some g, s⟩ :: l) k R e w := h
theorem isHN {q : Prop} {d : Nat} {s : SOp} {l t : List St} (h : q → SHO P n (⟨some d, none, s⟩ :: l) t k R e w) : q → SHO P n (⟨some d, none, s⟩ :: l) t k R e w := h
theorem isHG {q : Prop} {d : Option Nat} {g : Nat × Bool} {s : SOp} {l t : List St} (h : q → SHO P n (⟨d, some g, s⟩ :: l) t k R e w) : q → SHO P n (⟨d, some g, s⟩ :: l) t k R e w := h
theorem isDN {q : Prop} {d : Nat} {s : SOp} {t : DT} (h : q → SD P n S (.quiet ⟨some d, none, s⟩ t) k R e w) : q → SD P n S (.quiet ⟨some d, none, s⟩ t) k R e w := h
theorem isDG {q : Prop} {d : Option Nat} {g : Nat × Bool} {s : SOp} {t : DT} (h : q → SD P n S (.quiet ⟨d, some g, s⟩ t) k R e w) : q → SD P n S (.quiet ⟨d, some g, s⟩ t) k R e w := h
theorem isDE {q : Prop} {d : Option Nat} {g : Nat × Bool} {s : SOp} {t u : DT} (h : q → SD P n S (.eff ⟨d, some g, s⟩ t u) k R e w) : q → SD P n S (.eff ⟨d, some g, s⟩ t u) k R e w := h
end
/-- One step over plain code. -/
theorem stp {p q : Prop} (h : q) (f : q → p := by
    first
    | ((with_reducible apply isK); (first
      | ((with_reducible apply K.seq))
      | ((with_reducible apply K.ops))
      | ((with_reducible apply K.condT); exact rfl)
      | ((with_reducible apply K.condF); exact rfl)
      | ((with_reducible apply K.skip))
      | ((with_reducible apply K.blkend))
      | ((with_reducible apply K.exit); exact rfl)
      | ((with_reducible apply K.block))
      | ((with_reducible apply K.ret))
      | ((with_reducible apply K.nil))
      | ((with_reducible apply K.condTh); exact rfl; (first | with_reducible assumption | (simp only [decide_eq_true_eq, decide_eq_false_iff_not, beq_iff_eq, beq_eq_false_iff_ne, bne_iff_ne, ne_eq, bne_eq_false_iff_eq, Bool.not_eq_true', Bool.not_eq_false', Bool.not_eq_true, Bool.not_eq_false, Bool.and_eq_true, Bool.or_eq_true, Bool.and_eq_false_iff, Bool.or_eq_false_iff, Bool.cond_true, Bool.cond_false, Bool.not_true, Bool.not_false]; first | done | with_reducible assumption | omega)))
      | ((with_reducible apply K.condFh); exact rfl; (first | with_reducible assumption | (simp only [decide_eq_true_eq, decide_eq_false_iff_not, beq_iff_eq, beq_eq_false_iff_ne, bne_iff_ne, ne_eq, bne_eq_false_iff_eq, Bool.not_eq_true', Bool.not_eq_false', Bool.not_eq_true, Bool.not_eq_false, Bool.and_eq_true, Bool.or_eq_true, Bool.and_eq_false_iff, Bool.or_eq_false_iff, Bool.cond_true, Bool.cond_false, Bool.not_true, Bool.not_false]; first | done | with_reducible assumption | omega)))))
    | ((with_reducible apply isN); (first
      | ((with_reducible apply O.q (s := .mv _)); exact Qt.pure rfl)
      | ((with_reducible apply O.r (s := .ld _ _ _) hA); (first
      | exact Qt.ldBx (i := 0) rfl rfl rfl
      | exact Qt.ldBx (i := 1) rfl rfl rfl
      | exact Qt.ldBx (i := 2) rfl rfl rfl
      | exact Qt.ldBx (i := 3) rfl rfl rfl
      | exact Qt.ldBx (i := 4) rfl rfl rfl
      | exact Qt.ldBx (i := 5) rfl rfl rfl
      | exact Qt.ldBx (i := 6) rfl rfl rfl
      | exact Qt.ldBx (i := 7) rfl rfl rfl
      | exact Qt.ldBx (i := 8) rfl rfl rfl
      | exact Qt.ldBx (i := 9) rfl rfl rfl
      | exact Qt.ldCl rfl (by with_reducible assumption) (by with_reducible assumption) List.not_mem_nil rfl
      | exact Qt.ldCl0 rfl (by with_reducible assumption) (by with_reducible assumption) List.not_mem_nil rfl))
      | ((with_reducible apply O.q (s := .adr _ _)); exact Qt.pure rfl)
      | ((with_reducible apply O.q (s := .bin _ _ _)); (first
      | exact Qt.remN rfl rfl (by omega) (by omega)
      | exact Qt.quoN rfl rfl ⟨by omega, by omega⟩ (by omega)
      | exact Qt.quoU rfl rfl ⟨by omega, by omega⟩ (by omega)
      | exact Qt.rem rfl rfl (by omega)
      | exact Qt.shrN rfl rfl ⟨by omega, by first | decide | (simp only [IntKind.bits]; omega)⟩
      | exact Qt.shlN rfl rfl ⟨by omega, by first | decide | (simp only [IntKind.bits]; omega)⟩
      | exact Qt.bi rfl rfl rfl ⟨by omega, by omega⟩
      | exact Qt.bu rfl rfl rfl ⟨by omega, by omega⟩
      | exact Qt.pure rfl))
      | ((with_reducible apply O.q (s := .at_ _ _ _)); (first
      | exact Qt.at_ rfl rfl rfl (by omega)
      | exact Qt.at_ (k := Int.toNat _) rfl rfl (Int.toNat_of_nonneg (by omega)).symm (by omega)))
      | ((with_reducible apply O.q (s := .pick _ _ _)); (first
      | exact Qt.pure rfl
      | exact Qt.pickB rfl rfl rfl))
      | ((with_reducible apply O.q (s := .len _)); exact Qt.pure rfl)
      | ((with_reducible apply O.r (s := .str _) hA); (first
      | exact Qt.strOw (i := 0) rfl rfl rfl
      | exact Qt.strOw (i := 1) rfl rfl rfl
      | exact Qt.strOw (i := 2) rfl rfl rfl
      | exact Qt.strOw (i := 3) rfl rfl rfl
      | exact Qt.strOw (i := 4) rfl rfl rfl
      | exact Qt.strOw (i := 5) rfl rfl rfl
      | exact Qt.strOw (i := 6) rfl rfl rfl
      | exact Qt.strOw (i := 7) rfl rfl rfl
      | exact Qt.strOw (i := 8) rfl rfl rfl
      | exact Qt.strOw (i := 9) rfl rfl rfl
      | exact Qt.strOld rfl (by with_reducible assumption) (by first | rfl | with_reducible assumption)))
      | ((with_reducible apply O.q (s := .ext _ _)); exact Qt.pure rfl)
      | ((with_reducible apply O.q (s := .fld _ _ _ _)); exact Qt.pure rfl)
      | ((with_reducible apply O.q (s := .bld _ _)); exact Qt.pure rfl)
      | ((with_reducible apply O.q (s := .conv _ _)); (first
      | exact Qt.ci rfl ⟨by omega, by omega⟩
      | exact Qt.cu rfl ⟨by omega, by omega⟩
      | exact Qt.cb rfl
      | exact Qt.pure rfl))
      | ((with_reducible apply O.q (s := .un _ _)); exact Qt.pure rfl)
      | ((with_reducible apply O.q (s := .eqb _ _ _)); exact Qt.pure rfl)
      | ((with_reducible apply O.q (s := .nck _)); exact Qt.pure rfl)
      | ((with_reducible apply O.q (s := .ata _ _ _ _)); exact Qt.pure rfl)
      | ((with_reducible apply O.q (s := .idx _ _ _ _ _)); exact Qt.pure rfl)
      | ((with_reducible apply O.q (s := .mkf _ _ _)); exact Qt.pure rfl)
      | ((with_reducible apply O.q (s := .lens _)); exact Qt.pure rfl)
      | ((with_reducible apply O.q (s := .mm _ _ _)); exact Qt.pure rfl)))
    | ((with_reducible apply isG); (first
      | ((with_reducible apply O.g); exact rfl)
      | ((with_reducible apply O.skT); exact rfl)
      | ((with_reducible apply O.skF); exact rfl)
      | ((with_reducible apply O.knT); exact rfl; (first | with_reducible assumption | (simp only [decide_eq_true_eq, decide_eq_false_iff_not, beq_iff_eq, beq_eq_false_iff_ne, bne_iff_ne, ne_eq, bne_eq_false_iff_eq, Bool.not_eq_true', Bool.not_eq_false', Bool.not_eq_true, Bool.not_eq_false, Bool.and_eq_true, Bool.or_eq_true, Bool.and_eq_false_iff, Bool.or_eq_false_iff, Bool.cond_true, Bool.cond_false, Bool.not_true, Bool.not_false]; first | done | with_reducible assumption | omega)))
      | ((with_reducible apply O.knF); exact rfl; (first | with_reducible assumption | (simp only [decide_eq_true_eq, decide_eq_false_iff_not, beq_iff_eq, beq_eq_false_iff_ne, bne_iff_ne, ne_eq, bne_eq_false_iff_eq, Bool.not_eq_true', Bool.not_eq_false', Bool.not_eq_true, Bool.not_eq_false, Bool.and_eq_true, Bool.or_eq_true, Bool.and_eq_false_iff, Bool.or_eq_false_iff, Bool.cond_true, Bool.cond_false, Bool.not_true, Bool.not_false]; first | done | with_reducible assumption | omega)))))
    | ((with_reducible apply isHN); (first
      | ((with_reducible apply H.q (s := .mv _)); exact Qt.pure rfl)
      | ((with_reducible apply H.r (s := .ld _ _ _) hA); (first
      | exact Qt.ldBx (i := 0) rfl rfl rfl
      | exact Qt.ldBx (i := 1) rfl rfl rfl
      | exact Qt.ldBx (i := 2) rfl rfl rfl
      | exact Qt.ldBx (i := 3) rfl rfl rfl
      | exact Qt.ldBx (i := 4) rfl rfl rfl
      | exact Qt.ldBx (i := 5) rfl rfl rfl
      | exact Qt.ldBx (i := 6) rfl rfl rfl
      | exact Qt.ldBx (i := 7) rfl rfl rfl
      | exact Qt.ldBx (i := 8) rfl rfl rfl
      | exact Qt.ldBx (i := 9) rfl rfl rfl
      | exact Qt.ldCl rfl (by with_reducible assumption) (by with_reducible assumption) List.not_mem_nil rfl
      | exact Qt.ldCl0 rfl (by with_reducible assumption) (by with_reducible assumption) List.not_mem_nil rfl))
      | ((with_reducible apply H.q (s := .adr _ _)); exact Qt.pure rfl)
      | ((with_reducible apply H.q (s := .bin _ _ _)); (first
      | exact Qt.remN rfl rfl (by omega) (by omega)
      | exact Qt.quoN rfl rfl ⟨by omega, by omega⟩ (by omega)
      | exact Qt.quoU rfl rfl ⟨by omega, by omega⟩ (by omega)
      | exact Qt.rem rfl rfl (by omega)
      | exact Qt.shrN rfl rfl ⟨by omega, by first | decide | (simp only [IntKind.bits]; omega)⟩
      | exact Qt.shlN rfl rfl ⟨by omega, by first | decide | (simp only [IntKind.bits]; omega)⟩
      | exact Qt.bi rfl rfl rfl ⟨by omega, by omega⟩
      | exact Qt.bu rfl rfl rfl ⟨by omega, by omega⟩
      | exact Qt.pure rfl))
      | ((with_reducible apply H.q (s := .at_ _ _ _)); (first
      | exact Qt.at_ rfl rfl rfl (by omega)
      | exact Qt.at_ (k := Int.toNat _) rfl rfl (Int.toNat_of_nonneg (by omega)).symm (by omega)))
      | ((with_reducible apply H.q (s := .pick _ _ _)); (first
      | exact Qt.pure rfl
      | exact Qt.pickB rfl rfl rfl))
      | ((with_reducible apply H.q (s := .len _)); exact Qt.pure rfl)
      | ((with_reducible apply H.r (s := .str _) hA); (first
      | exact Qt.strOw (i := 0) rfl rfl rfl
      | exact Qt.strOw (i := 1) rfl rfl rfl
      | exact Qt.strOw (i := 2) rfl rfl rfl
      | exact Qt.strOw (i := 3) rfl rfl rfl
      | exact Qt.strOw (i := 4) rfl rfl rfl
      | exact Qt.strOw (i := 5) rfl rfl rfl
      | exact Qt.strOw (i := 6) rfl rfl rfl
      | exact Qt.strOw (i := 7) rfl rfl rfl
      | exact Qt.strOw (i := 8) rfl rfl rfl
      | exact Qt.strOw (i := 9) rfl rfl rfl
      | exact Qt.strOld rfl (by with_reducible assumption) (by first | rfl | with_reducible assumption)))
      | ((with_reducible apply H.q (s := .ext _ _)); exact Qt.pure rfl)
      | ((with_reducible apply H.q (s := .fld _ _ _ _)); exact Qt.pure rfl)
      | ((with_reducible apply H.q (s := .bld _ _)); exact Qt.pure rfl)
      | ((with_reducible apply H.q (s := .conv _ _)); (first
      | exact Qt.ci rfl ⟨by omega, by omega⟩
      | exact Qt.cu rfl ⟨by omega, by omega⟩
      | exact Qt.cb rfl
      | exact Qt.pure rfl))
      | ((with_reducible apply H.q (s := .un _ _)); exact Qt.pure rfl)
      | ((with_reducible apply H.q (s := .eqb _ _ _)); exact Qt.pure rfl)
      | ((with_reducible apply H.q (s := .nck _)); exact Qt.pure rfl)
      | ((with_reducible apply H.q (s := .ata _ _ _ _)); exact Qt.pure rfl)
      | ((with_reducible apply H.q (s := .idx _ _ _ _ _)); exact Qt.pure rfl)
      | ((with_reducible apply H.q (s := .mkf _ _ _)); exact Qt.pure rfl)
      | ((with_reducible apply H.q (s := .lens _)); exact Qt.pure rfl)
      | ((with_reducible apply H.q (s := .mm _ _ _)); exact Qt.pure rfl)))
    | ((with_reducible apply isHG); (first
      | ((with_reducible apply H.g); exact rfl)
      | ((with_reducible apply H.skT); exact rfl)
      | ((with_reducible apply H.skF); exact rfl)
      | ((with_reducible apply H.knT); exact rfl; (first | with_reducible assumption | (simp only [decide_eq_true_eq, decide_eq_false_iff_not, beq_iff_eq, beq_eq_false_iff_ne, bne_iff_ne, ne_eq, bne_eq_false_iff_eq, Bool.not_eq_true', Bool.not_eq_false', Bool.not_eq_true, Bool.not_eq_false, Bool.and_eq_true, Bool.or_eq_true, Bool.and_eq_false_iff, Bool.or_eq_false_iff, Bool.cond_true, Bool.cond_false, Bool.not_true, Bool.not_false]; first | done | with_reducible assumption | omega)))
      | ((with_reducible apply H.knF); exact rfl; (first | with_reducible assumption | (simp only [decide_eq_true_eq, decide_eq_false_iff_not, beq_iff_eq, beq_eq_false_iff_ne, bne_iff_ne, ne_eq, bne_eq_false_iff_eq, Bool.not_eq_true', Bool.not_eq_false', Bool.not_eq_true, Bool.not_eq_false, Bool.and_eq_true, Bool.or_eq_true, Bool.and_eq_false_iff, Bool.or_eq_false_iff, Bool.cond_true, Bool.cond_false, Bool.not_true, Bool.not_false]; first | done | with_reducible assumption | omega)))))
    | ((with_reducible apply O.nil))
    | ((with_reducible apply H.nil))) : p := f h
/-- One step in a region that draws. -/
theorem stq {p q : Prop} (h : q) (f : q → p := by
    first
    | ((with_reducible apply isDN); (first
      | ((with_reducible apply D.q (s := .mv _)); exact Qt.pure rfl)
      | ((with_reducible apply D.q (s := .ld _ _ _)); (first
      | exact Qt.ldBx (i := 0) rfl rfl rfl
      | exact Qt.ldBx (i := 1) rfl rfl rfl
      | exact Qt.ldBx (i := 2) rfl rfl rfl
      | exact Qt.ldBx (i := 3) rfl rfl rfl
      | exact Qt.ldBx (i := 4) rfl rfl rfl
      | exact Qt.ldBx (i := 5) rfl rfl rfl
      | exact Qt.ldBx (i := 6) rfl rfl rfl
      | exact Qt.ldBx (i := 7) rfl rfl rfl
      | exact Qt.ldBx (i := 8) rfl rfl rfl
      | exact Qt.ldBx (i := 9) rfl rfl rfl
      | exact Qt.ldCl rfl (by with_reducible assumption) (by with_reducible assumption) List.not_mem_nil rfl
      | exact Qt.ldCl0 rfl (by with_reducible assumption) (by with_reducible assumption) List.not_mem_nil rfl))
      | ((with_reducible apply D.q (s := .adr _ _)); exact Qt.pure rfl)
      | ((with_reducible apply D.q (s := .bin _ _ _)); (first
      | exact Qt.remN rfl rfl (by omega) (by omega)
      | exact Qt.quoN rfl rfl ⟨by omega, by omega⟩ (by omega)
      | exact Qt.quoU rfl rfl ⟨by omega, by omega⟩ (by omega)
      | exact Qt.rem rfl rfl (by omega)
      | exact Qt.shrN rfl rfl ⟨by omega, by first | decide | (simp only [IntKind.bits]; omega)⟩
      | exact Qt.shlN rfl rfl ⟨by omega, by first | decide | (simp only [IntKind.bits]; omega)⟩
      | exact Qt.bi rfl rfl rfl ⟨by omega, by omega⟩
      | exact Qt.bu rfl rfl rfl ⟨by omega, by omega⟩
      | exact Qt.pure rfl))
      | ((with_reducible apply D.q (s := .at_ _ _ _)); (first
      | exact Qt.at_ rfl rfl rfl (by omega)
      | exact Qt.at_ (k := Int.toNat _) rfl rfl (Int.toNat_of_nonneg (by omega)).symm (by omega)))
      | ((with_reducible apply D.q (s := .pick _ _ _)); (first
      | exact Qt.pure rfl
      | exact Qt.pickB rfl rfl rfl))
      | ((with_reducible apply D.q (s := .len _)); exact Qt.pure rfl)
      | ((with_reducible apply D.q (s := .str _)); (first
      | exact Qt.strOw (i := 0) rfl rfl rfl
      | exact Qt.strOw (i := 1) rfl rfl rfl
      | exact Qt.strOw (i := 2) rfl rfl rfl
      | exact Qt.strOw (i := 3) rfl rfl rfl
      | exact Qt.strOw (i := 4) rfl rfl rfl
      | exact Qt.strOw (i := 5) rfl rfl rfl
      | exact Qt.strOw (i := 6) rfl rfl rfl
      | exact Qt.strOw (i := 7) rfl rfl rfl
      | exact Qt.strOw (i := 8) rfl rfl rfl
      | exact Qt.strOw (i := 9) rfl rfl rfl
      | exact Qt.strOld rfl (by with_reducible assumption) (by first | rfl | with_reducible assumption)))
      | ((with_reducible apply D.q (s := .ext _ _)); exact Qt.pure rfl)
      | ((with_reducible apply D.q (s := .fld _ _ _ _)); exact Qt.pure rfl)
      | ((with_reducible apply D.q (s := .bld _ _)); exact Qt.pure rfl)
      | ((with_reducible apply D.q (s := .conv _ _)); (first
      | exact Qt.ci rfl ⟨by omega, by omega⟩
      | exact Qt.cu rfl ⟨by omega, by omega⟩
      | exact Qt.cb rfl
      | exact Qt.pure rfl))
      | ((with_reducible apply D.q (s := .un _ _)); exact Qt.pure rfl)
      | ((with_reducible apply D.q (s := .eqb _ _ _)); exact Qt.pure rfl)
      | ((with_reducible apply D.q (s := .nck _)); exact Qt.pure rfl)
      | ((with_reducible apply D.q (s := .ata _ _ _ _)); exact Qt.pure rfl)
      | ((with_reducible apply D.q (s := .idx _ _ _ _ _)); exact Qt.pure rfl)
      | ((with_reducible apply D.q (s := .mkf _ _ _)); exact Qt.pure rfl)
      | ((with_reducible apply D.q (s := .lens _)); exact Qt.pure rfl)
      | ((with_reducible apply D.q (s := .mm _ _ _)); exact Qt.pure rfl)))
    | ((with_reducible apply isDG); (first
      | ((with_reducible apply D.qg (s := .mv _)); exact rfl; exact Qt.pure rfl)
      | ((with_reducible apply D.qg (s := .ld _ _ _)); exact rfl; (first
      | exact Qt.ldBx (i := 0) rfl rfl rfl
      | exact Qt.ldBx (i := 1) rfl rfl rfl
      | exact Qt.ldBx (i := 2) rfl rfl rfl
      | exact Qt.ldBx (i := 3) rfl rfl rfl
      | exact Qt.ldBx (i := 4) rfl rfl rfl
      | exact Qt.ldBx (i := 5) rfl rfl rfl
      | exact Qt.ldBx (i := 6) rfl rfl rfl
      | exact Qt.ldBx (i := 7) rfl rfl rfl
      | exact Qt.ldBx (i := 8) rfl rfl rfl
      | exact Qt.ldBx (i := 9) rfl rfl rfl
      | exact Qt.ldCl rfl (by with_reducible assumption) (by with_reducible assumption) List.not_mem_nil rfl
      | exact Qt.ldCl0 rfl (by with_reducible assumption) (by with_reducible assumption) List.not_mem_nil rfl))
      | ((with_reducible apply D.qg (s := .adr _ _)); exact rfl; exact Qt.pure rfl)
      | ((with_reducible apply D.qg (s := .bin _ _ _)); exact rfl; (first
      | exact Qt.remN rfl rfl (by omega) (by omega)
      | exact Qt.quoN rfl rfl ⟨by omega, by omega⟩ (by omega)
      | exact Qt.quoU rfl rfl ⟨by omega, by omega⟩ (by omega)
      | exact Qt.rem rfl rfl (by omega)
      | exact Qt.shrN rfl rfl ⟨by omega, by first | decide | (simp only [IntKind.bits]; omega)⟩
      | exact Qt.shlN rfl rfl ⟨by omega, by first | decide | (simp only [IntKind.bits]; omega)⟩
      | exact Qt.bi rfl rfl rfl ⟨by omega, by omega⟩
      | exact Qt.bu rfl rfl rfl ⟨by omega, by omega⟩
      | exact Qt.pure rfl))
      | ((with_reducible apply D.qg (s := .at_ _ _ _)); exact rfl; (first
      | exact Qt.at_ rfl rfl rfl (by omega)
      | exact Qt.at_ (k := Int.toNat _) rfl rfl (Int.toNat_of_nonneg (by omega)).symm (by omega)))
      | ((with_reducible apply D.qg (s := .pick _ _ _)); exact rfl; (first
      | exact Qt.pure rfl
      | exact Qt.pickB rfl rfl rfl))
      | ((with_reducible apply D.qg (s := .len _)); exact rfl; exact Qt.pure rfl)
      | ((with_reducible apply D.qg (s := .str _)); exact rfl; (first
      | exact Qt.strOw (i := 0) rfl rfl rfl
      | exact Qt.strOw (i := 1) rfl rfl rfl
      | exact Qt.strOw (i := 2) rfl rfl rfl
      | exact Qt.strOw (i := 3) rfl rfl rfl
      | exact Qt.strOw (i := 4) rfl rfl rfl
      | exact Qt.strOw (i := 5) rfl rfl rfl
      | exact Qt.strOw (i := 6) rfl rfl rfl
      | exact Qt.strOw (i := 7) rfl rfl rfl
      | exact Qt.strOw (i := 8) rfl rfl rfl
      | exact Qt.strOw (i := 9) rfl rfl rfl
      | exact Qt.strOld rfl (by with_reducible assumption) (by first | rfl | with_reducible assumption)))
      | ((with_reducible apply D.qg (s := .ext _ _)); exact rfl; exact Qt.pure rfl)
      | ((with_reducible apply D.qg (s := .fld _ _ _ _)); exact rfl; exact Qt.pure rfl)
      | ((with_reducible apply D.qg (s := .bld _ _)); exact rfl; exact Qt.pure rfl)
      | ((with_reducible apply D.qg (s := .conv _ _)); exact rfl; (first
      | exact Qt.ci rfl ⟨by omega, by omega⟩
      | exact Qt.cu rfl ⟨by omega, by omega⟩
      | exact Qt.cb rfl
      | exact Qt.pure rfl))
      | ((with_reducible apply D.qg (s := .un _ _)); exact rfl; exact Qt.pure rfl)
      | ((with_reducible apply D.qg (s := .eqb _ _ _)); exact rfl; exact Qt.pure rfl)
      | ((with_reducible apply D.qg (s := .nck _)); exact rfl; exact Qt.pure rfl)
      | ((with_reducible apply D.qg (s := .ata _ _ _ _)); exact rfl; exact Qt.pure rfl)
      | ((with_reducible apply D.qg (s := .idx _ _ _ _ _)); exact rfl; exact Qt.pure rfl)
      | ((with_reducible apply D.qg (s := .mkf _ _ _)); exact rfl; exact Qt.pure rfl)
      | ((with_reducible apply D.qg (s := .lens _)); exact rfl; exact Qt.pure rfl)
      | ((with_reducible apply D.qg (s := .mm _ _ _)); exact rfl; exact Qt.pure rfl)
      | ((with_reducible apply D.skT); exact rfl)
      | ((with_reducible apply D.skF); exact rfl)
      | ((with_reducible apply D.knT); exact rfl; (first | with_reducible assumption | (simp only [decide_eq_true_eq, decide_eq_false_iff_not, beq_iff_eq, beq_eq_false_iff_ne, bne_iff_ne, ne_eq, bne_eq_false_iff_eq, Bool.not_eq_true', Bool.not_eq_false', Bool.not_eq_true, Bool.not_eq_false, Bool.and_eq_true, Bool.or_eq_true, Bool.and_eq_false_iff, Bool.or_eq_false_iff, Bool.cond_true, Bool.cond_false, Bool.not_true, Bool.not_false]; first | done | with_reducible assumption | omega)))
      | ((with_reducible apply D.knF); exact rfl; (first | with_reducible assumption | (simp only [decide_eq_true_eq, decide_eq_false_iff_not, beq_iff_eq, beq_eq_false_iff_ne, bne_iff_ne, ne_eq, bne_eq_false_iff_eq, Bool.not_eq_true', Bool.not_eq_false', Bool.not_eq_true, Bool.not_eq_false, Bool.and_eq_true, Bool.or_eq_true, Bool.and_eq_false_iff, Bool.or_eq_false_iff, Bool.cond_true, Bool.cond_false, Bool.not_true, Bool.not_false]; first | done | with_reducible assumption | omega)))))
    | ((with_reducible apply isDE); (first
      | ((with_reducible apply D.esT); exact rfl)
      | ((with_reducible apply D.esF); exact rfl)
      | ((with_reducible apply D.ekT); exact rfl; (fail_if_success with_reducible exact rfl); (first | with_reducible assumption | (simp only [decide_eq_true_eq, decide_eq_false_iff_not, beq_iff_eq, beq_eq_false_iff_ne, bne_iff_ne, ne_eq, bne_eq_false_iff_eq, Bool.not_eq_true', Bool.not_eq_false', Bool.not_eq_true, Bool.not_eq_false, Bool.and_eq_true, Bool.or_eq_true, Bool.and_eq_false_iff, Bool.or_eq_false_iff, Bool.cond_true, Bool.cond_false, Bool.not_true, Bool.not_false]; first | done | with_reducible assumption | omega)))
      | ((with_reducible apply D.ekF); exact rfl; (fail_if_success with_reducible exact rfl); (first | with_reducible assumption | (simp only [decide_eq_true_eq, decide_eq_false_iff_not, beq_iff_eq, beq_eq_false_iff_ne, bne_iff_ne, ne_eq, bne_eq_false_iff_eq, Bool.not_eq_true', Bool.not_eq_false', Bool.not_eq_true, Bool.not_eq_false, Bool.and_eq_true, Bool.or_eq_true, Bool.and_eq_false_iff, Bool.or_eq_false_iff, Bool.cond_true, Bool.cond_false, Bool.not_true, Bool.not_false]; first | done | with_reducible assumption | omega)))))
    | ((with_reducible apply D.nil))) : p := f h
/-- Ways part. -/
theorem st2 {p q r : Prop} (h : q) (h2 : r) (f : q → r → p := by
    first
    | ((with_reducible apply K.splitD); exact rfl)
    | ((with_reducible apply K.splitE); exact rfl)
    | ((with_reducible apply K.splitN); exact rfl)
    | ((with_reducible apply K.split); exact rfl)
    | ((with_reducible apply O.splitD); exact rfl)
    | ((with_reducible apply O.splitE); exact rfl)
    | ((with_reducible apply O.splitN); exact rfl)
    | ((with_reducible apply O.split); exact rfl)
    | ((with_reducible apply H.splitD); exact rfl)
    | ((with_reducible apply H.splitE); exact rfl)
    | ((with_reducible apply H.splitN); exact rfl)
    | ((with_reducible apply H.split); exact rfl)
    | ((with_reducible apply D.splitD); exact rfl)
    | ((with_reducible apply D.splitE); exact rfl)
    | ((with_reducible apply D.splitN); exact rfl)
    | ((with_reducible apply D.split); exact rfl)
    | ((with_reducible apply D.esplitD); exact rfl)
    | ((with_reducible apply D.esplitE); exact rfl)
    | ((with_reducible apply D.esplitN); exact rfl)) : p := f h h2
/-- A region that draws. -/
theorem st4 {p q : Prop} (h : q) (f : q → p := by
    with_reducible apply K.dtl hA) : p := f h
/-- A store. -/
theorem st3 {p q : Prop} (h : q) (f : q → p := by
    ((with_reducible apply O.st hA); exact rfl; (first
      | exact (rfl : nthE _ 0 = _)
      | exact (rfl : nthE _ 1 = _)
      | exact (rfl : nthE _ 2 = _)
      | exact (rfl : nthE _ 3 = _)
      | exact (rfl : nthE _ 4 = _)
      | exact (rfl : nthE _ 5 = _)
      | exact (rfl : nthE _ 6 = _)
      | exact (rfl : nthE _ 7 = _)
      | exact (rfl : nthE _ 8 = _)
      | exact (rfl : nthE _ 9 = _)); exact rfl; exact rfl; exact rfl; exact rfl; exact rfl; exact rfl)) : p := f h
end Go.Proofs.Ytmajepinbldneaa
