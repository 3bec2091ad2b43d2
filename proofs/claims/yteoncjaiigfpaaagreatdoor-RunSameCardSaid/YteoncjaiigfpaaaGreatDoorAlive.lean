import Derived.Test.YteoncjaiigfpaaaGreatDoorR1
import Derived.Test.YteoncjaiigfpaaaGreatDoorR2
import Derived.Test.YteoncjaiigfpaaaGreatDoorR3
import Derived.Test.YteoncjaiigfpaaaGreatDoorR4
import Derived.Test.YteoncjaiigfpaaaGreatDoorR5
set_option linter.all false
namespace Go.Proofs
open Ab
set_option maxRecDepth 100000

theorem mixed : Tryz.prog.follows .mixedOrders = true := by kernel_rfl

theorem eqv_sound : ∀ x y, sameVal 8 x y = true → x = y := sameVal_sound 8

theorem plainCalls : CallSound Tryz.prog (aCallK Tryz.prog (sameVal 8) (knownF []) 3000) := aCallK_sound mixed eqv_sound good_nil 3000

noncomputable def aliveK : List Known := [k9x8, k9x1775, k9x6631, k9x6636, k13x8051]

theorem aliveGood : Good Tryz.prog aliveK :=
  good_cons (good_cons (good_cons (good_cons (good_cons good_nil plainCalls r_k13x8051) plainCalls r_k9x6636) plainCalls r_k9x6631) plainCalls r_k9x1775) plainCalls r_k9x8

/-- The three tables of functions. -/
noncomputable def A0 : H := { next := 3, ro := 3, blks := T.nil.setFrom 0 ((k9x8.pre.take 3).map (·.2)) }

noncomputable def isTrue (r : Option (AEnd × H)) : Bool := match r with
  | some (.ret (.bool b), _) => b
  | _ => false

theorem alive_run : isTrue (aCallK Tryz.prog (sameVal 8) (knownF aliveK) 3000 8 [] A0) = true := by kernel_rfl

theorem alive_calls {ρ : Rho} {w : World} (hr : Rel Tryz.prog ρ A0 w) : Calls Tryz.prog 8 #[] w fun e w' => e = .returned (.bool true) ∧ ∃ ρ' A', Mv Tryz.prog ρ A0 w ρ' A' w' := by
  have h := alive_run
  unfold isTrue at h
  split at h
  · next b A' hc =>
    subst h
    refine ((aCallK_sound mixed eqv_sound aliveGood 3000 _ _ _ _ _ hc).2 ρ w #[] hr .nil).mono fun e w' hp => ?_
    obtain ⟨ρ', hm, he⟩ := hp
    cases he with
    | ret _ v hv => cases hv; exact ⟨rfl, ρ', A', hm⟩
  · cases h

end Go.Proofs
