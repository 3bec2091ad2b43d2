import Derived.Test.YteoncjaiigfpaaaGreatDoorF7
import Derived.Test.YteoncjaiigfpaaaGreatDoorSx4
import Derived.Test.YteoncjaiigfpaaaGreatDoorLaid
import Derived.Test.YteoncjaiigfpaaaGreatDoorCards
import Derived.Test.YteoncjaiigfpaaaGreatDoorTie
import Derived.WalkKit
import Derived.ProofKit
import Derived.OpenShut
import Derived.Deep.DeepHandedRow
set_option linter.all false
namespace Go.Proofs.YteoncjaiigfpaaaGreatDoor
open Go.ChangeShapes Go.WideShapes Go.ChangeAt Go.RowKit Ab
set_option maxRecDepth 100000

theorem own : ownKnob Tryz.prog.godebug = none := by kernel_rfl
theorem laidOut : laidOutB Tryz.prog = true := by kernel_rfl
def lt0 : List Value := [.nilFunc, .func (.func 356) #[] #[], .func (.func 356) #[] #[], .func (.func 356) #[] #[], .func (.func 357) #[] #[], .func (.func 357) #[] #[], .func (.func 358) #[] #[], .func (.func 358) #[] #[]]
def lt1 : List Value := [.nilFunc, .nilFunc, .nilFunc, .nilFunc, .nilFunc, .nilFunc, .nilFunc, .nilFunc, .func (.func 414) #[] #[], .func (.func 415) #[] #[], .func (.func 416) #[] #[]]
def lt2 : List Value := [.nilFunc, .func (.func 432) #[] #[], .func (.func 434) #[] #[], .func (.func 437) #[] #[], .func (.func 439) #[] #[], .func (.func 441) #[] #[], .func (.func 442) #[] #[], .func (.func 445) #[] #[], .func (.func 447) #[] #[], .func (.func 449) #[] #[], .func (.func 451) #[] #[], .func (.func 453) #[] #[], .func (.func 454) #[] #[], .func (.func 455) #[] #[], .func (.func 456) #[] #[], .func (.func 457) #[] #[], .func (.func 459) #[] #[], .func (.func 460) #[] #[], .func (.func 461) #[] #[], .func (.func 462) #[] #[]]
theorem tabL_eq : tabL = [.row lt0 0, .row lt1 0, .row lt2 0] := by kernel_rfl

theorem closed_same {ρ : Rho} {v : Value} (hc : closedV v = true) : VR ρ v v := by
  cases v <;> first | cases hc | skip
  · next fn f c =>
    simp only [closedV, Bool.and_eq_true, List.isEmpty_iff] at hc
    refine .func _ _ _ _ _ ?_ ?_
    · rw [hc.1]; exact .nil
    · rw [hc.2]; exact .nil
  · exact .nilFunc

/-- WHAT THE ROW's LIST GIVES: the three tables' functions, and so a likeness of them. -/
theorem tables {W : World} (h : laidMetH Tryz.prog [("underwood/deque.kinds", Rows.laid_underwood_deque_kinds), ("underwood/obj.programs", Rows.laid_underwood_obj_programs), ("underwood/vm.all", Rows.laid_underwood_vm_all)] W) : ∃ ρ, RelRo Tryz.prog ρ A0 W := by
  obtain ⟨a0, e0, z0, h0, t0⟩ := tab0 (w := W) (Option.some.inj (show some (DataW.funcsOut _) = some _ from out0_eq)) (h.funcs (List.mem_cons_of_mem _ (List.mem_cons_self ..)))
  obtain ⟨a1, e1, z1, h1, t1⟩ := tab1 (w := W) (Option.some.inj (show some (DataW.funcsOut _) = some _ from out1_eq)) (h.funcs (List.mem_cons_self ..))
  obtain ⟨a2, e2, z2, h2, t2⟩ := tab2 (w := W) (Option.some.inj (show some (DataW.funcsOut _) = some _ from out2_eq)) (h.funcs (List.mem_cons_of_mem _ (List.mem_cons_of_mem _ (List.mem_cons_self ..))))
  have at_ : ∀ b, b < 3 → ∃ arr el fz cs, W.heap[b]? = some (.cells arr el fz) ∧ tabL[b]? = some (.row cs 0) ∧ arr.toList = cs ∧ cs.all closedV = true := by
    intro b hb
    rw [tabL_eq]
    rcases b with _ | _ | _ | b
    · exact ⟨a0, e0, z0, lt0, h0, rfl, t0, by decide⟩
    · exact ⟨a1, e1, z1, lt1, h1, rfl, t1, by decide⟩
    · exact ⟨a2, e2, z2, lt2, h2, rfl, t2, by decide⟩
    · omega
  have get : ∀ b, A0.get b = tabL[b]? := fun b => by
    have : A0.get b = (T.nil.setFrom 0 tabL).get b := rfl
    rw [this, T.get_setFrom, if_pos (Nat.zero_le _), Nat.sub_zero]
    cases tabL[b]? <;> rfl
  have size : ∀ b, b < 3 → b < W.heap.size := fun b hb => by
    obtain ⟨arr, el, fz, cs, k1, _⟩ := at_ b hb
    exact (Array.getElem?_eq_some_iff.1 k1).1
  let tot : Nat → Nat := fun b => match W.heap[b]? with | some (.cells arr _ _) => arr.size | _ => 0
  refine ⟨fun b => if b < 3 then some ⟨b, 0, 0, tot b⟩ else none, ⟨⟨fun b X hb => ?_, fun b b' X X' L L' hro hb => ?_, fun b L hb => ?_, fun b hb => ?_, Nat.le_refl _, fun g hg => ?_⟩, rfl⟩⟩
  · have hb3 : b < 3 := (A0_get b X hb).1
    obtain ⟨arr, el, fz, cs, k1, k2, k3, k4⟩ := at_ b hb3
    rw [get, k2] at hb
    cases hb
    refine ⟨⟨b, 0, 0, tot b⟩, if_pos hb3, rfl, arr, el, fz, k1, by simp only [tot, k1], .inl hb3, fun i v hv => ⟨v, ?_, closed_same (List.all_eq_true.1 k4 v (List.mem_of_getElem? hv))⟩⟩
    rw [← k3] at hv
    simpa using hv
  · have : (3 : Nat) ≤ b := hro
    exact absurd (A0_get b X hb).1 (Nat.not_lt.2 hro)
  · split at hb
    · next hlt => cases hb; exact size b hlt
    · cases hb
  · have : (3 : Nat) ≤ b := hb
    exact if_neg (by omega)
  · rw [globals3] at hg
    exact ⟨_, if_pos hg, rfl, rfl⟩
end Go.Proofs.YteoncjaiigfpaaaGreatDoor

namespace Go.Proofs.YteoncjaiigfpaaaGreatDoor
open Go.ChangeShapes Go.WideShapes Go.ChangeAt Go.RowKit Ab
set_option maxRecDepth 100000

/-! Readable data at the seat's types. -/
theorem rdg_ints {n : Nat} {B : Hp} {vs : List Value} (h : Rdg Tryz.prog (n + 2) 23 B vs) : ∃ base cap xs, vs = [.slice base xs.length cap] ∧ Ints B (.slice base xs.length cap) xs := by
  have hc : Tryz.prog.cellsOf 3 = 1 := by kernel_rfl
  obtain ⟨b, c, xs, h1, h2⟩ := rdg_slice (R := intR) Tryz.underlying23 (fun es _ he => by
    obtain ⟨m, hm, _⟩ := rdg_int Tryz.underlying3 he
    exact ⟨m, hm⟩) h
  rw [hc] at h2
  exact ⟨b, c, xs, h1, h2⟩
theorem rdg_rows {n : Nat} {B : Hp} {vs : List Value} (h : Rdg Tryz.prog (n + 3) 32 B vs) : ∃ base cap xs, vs = [.slice base xs.length cap] ∧ IntRows B (.slice base xs.length cap) xs := by
  have hc : Tryz.prog.cellsOf 23 = 1 := by kernel_rfl
  obtain ⟨b, c, xs, h1, h2⟩ := rdg_slice (R := sliceR Ints) Tryz.underlying32 (fun es _ he => by
    obtain ⟨b, c, ys, h1, h2⟩ := rdg_ints he
    exact ⟨ys, b, c, h1, h2⟩) h
  rw [hc] at h2
  exact ⟨b, c, xs, h1, h2⟩
theorem fields_of {n : Nat} {B : Hp} {vs : List Value} {fs : Array Field} (h : ∀ f ∈ fs.toList, Rdg Tryz.prog n f.type B ((vs.drop f.offset).take (Tryz.prog.cellsOf f.type))) (i : Nat) (f : Field) (hf : fs[i]? = some f) {k : Nat} (hk : Tryz.prog.cellsOf f.type = k) : Rdg Tryz.prog n f.type B ((vs.drop f.offset).take k) := by
  rw [← hk]; exact h f (by rw [← Array.mem_def]; exact Array.mem_of_getElem? hf)
theorem c3 : Tryz.prog.cellsOf 3 = 1 := by kernel_rfl
theorem c23 : Tryz.prog.cellsOf 23 = 1 := by kernel_rfl
theorem c28 : Tryz.prog.cellsOf 28 = 1 := by kernel_rfl
theorem c29 : Tryz.prog.cellsOf 29 = 1 := by kernel_rfl
theorem c32 : Tryz.prog.cellsOf 32 = 1 := by kernel_rfl
theorem c62 : Tryz.prog.cellsOf 62 = 8 := by kernel_rfl
theorem c66 : Tryz.prog.cellsOf 66 = 3 := by kernel_rfl

theorem rdg_cont {n : Nat} {B : Hp} {vs : List Value} (h : Rdg Tryz.prog (n + 3) 66 B vs) : ∃ c, contR B vs c := by
  obtain ⟨hl, hf⟩ := rdg_struct Tryz.underlying66 h
  rw [c66] at hl
  obtain ⟨x0, x1, x2, rfl⟩ : ∃ a b c, vs = [a, b, c] := by
    rcases vs with _ | ⟨a, _ | ⟨b, _ | ⟨c, _ | ⟨d, vs⟩⟩⟩⟩ <;> simp at hl
    exact ⟨a, b, c, rfl⟩
  obtain ⟨m, hm, _⟩ := rdg_int Tryz.underlying3 (fields_of hf 0 _ rfl c3)
  obtain ⟨kb, kc, ks, hk1, hk2⟩ := rdg_ints (fields_of hf 1 _ rfl c23)
  obtain ⟨vb, vc, xs, hv1, hv2⟩ := rdg_ints (fields_of hf 2 _ rfl c23)
  obtain rfl := (List.cons.inj (show [x0] = _ from hm)).1
  obtain rfl := (List.cons.inj (show [x1] = _ from hk1)).1
  obtain rfl := (List.cons.inj (show [x2] = _ from hv1)).1
  exact ⟨⟨m, ks, xs⟩, kb, kc, vb, vc, rfl, hk2, hv2⟩
theorem rdg_conts {n : Nat} {B : Hp} {vs : List Value} (h : Rdg Tryz.prog (n + 4) 29 B vs) : ∃ base cap xs, vs = [.slice base xs.length cap] ∧ Conts B (.slice base xs.length cap) xs := by
  obtain ⟨b, c, xs, h1, h2⟩ := rdg_slice (R := contR) Tryz.underlying29 (fun es _ he => rdg_cont he) h
  rw [c66] at h2
  exact ⟨b, c, xs, h1, h2⟩
theorem rdg_shp {n : Nat} {B : Hp} {vs : List Value} (h : Rdg Tryz.prog (n + 5) 62 B vs) : ∃ s, shpR B vs s := by
  obtain ⟨hl, hf⟩ := rdg_struct Tryz.underlying62 h
  rw [c62] at hl
  obtain ⟨x0, x1, x2, x3, x4, x5, x6, x7, rfl⟩ : ∃ a b c d e f g i, vs = [a, b, c, d, e, f, g, i] := by
    rcases vs with _ | ⟨a, _ | ⟨b, _ | ⟨c, _ | ⟨d, _ | ⟨e, _ | ⟨f, _ | ⟨g, _ | ⟨i, _ | ⟨j, vs⟩⟩⟩⟩⟩⟩⟩⟩⟩ <;> simp at hl
    exact ⟨a, b, c, d, e, f, g, i, rfl⟩
  obtain ⟨m0, h0, _⟩ := rdg_int Tryz.underlying28 (fields_of hf 0 _ rfl c28)
  obtain ⟨m1, h1, _⟩ := rdg_int Tryz.underlying3 (fields_of hf 1 _ rfl c3)
  obtain ⟨b2, k2, l2, h2, g2⟩ := rdg_ints (fields_of hf 2 _ rfl c23)
  obtain ⟨b3, k3, l3, h3, g3⟩ := rdg_conts (fields_of hf 3 _ rfl c29)
  obtain ⟨b4, k4, l4, h4, g4⟩ := rdg_conts (fields_of hf 4 _ rfl c29)
  obtain ⟨b5, k5, l5, h5, g5⟩ := rdg_conts (fields_of hf 5 _ rfl c29)
  obtain ⟨m6, h6, _⟩ := rdg_int Tryz.underlying3 (fields_of hf 6 _ rfl c3)
  obtain ⟨b7, k7, l7, h7, g7⟩ := rdg_rows (fields_of hf 7 _ rfl c32)
  obtain rfl := (List.cons.inj (show [x0] = _ from h0)).1
  obtain rfl := (List.cons.inj (show [x1] = _ from h1)).1
  obtain rfl := (List.cons.inj (show [x2] = _ from h2)).1
  obtain rfl := (List.cons.inj (show [x3] = _ from h3)).1
  obtain rfl := (List.cons.inj (show [x4] = _ from h4)).1
  obtain rfl := (List.cons.inj (show [x5] = _ from h5)).1
  obtain rfl := (List.cons.inj (show [x6] = _ from h6)).1
  obtain rfl := (List.cons.inj (show [x7] = _ from h7)).1
  exact ⟨⟨m0, m1, l2, l3, l4, l5, m6, l7⟩, b2, k2, b3, k3, b4, k4, b5, k5, b7, k7, rfl, g2, g3, g4, g5, g7⟩
end Go.Proofs.YteoncjaiigfpaaaGreatDoor

namespace Go.Proofs.YteoncjaiigfpaaaGreatDoor
open Go.ChangeShapes Go.WideShapes Go.ChangeAt Go.RowKit Ab
set_option maxRecDepth 100000

theorem fine62 : ([62, 62].all fun t => fineTy Tryz.prog 5 t) = true := by kernel_rfl
theorem read4 : (Tryz.f4.params.toList.all fun t => Tryz.prog.readableRec t && decide (t < Tryz.prog.types.size)) = true := by kernel_rfl

/-- WHAT THE WALK GIVES, FOR EVERY ARGUMENT AND EVERY WORLD THAT HOLDS THE TABLES. -/
theorem runSame_contract (H : Type) (enc : TypeId × Value → H) (W : World) (base : Nat) (args : Array Value) (ds gs : List (DataW H)) (before : List MemPlace)
    (hval : ∀ (j : Nat) t v, Tryz.f4.params[j]? = some t → args[j]? = some v → Value.okWide Tryz.prog W .any base t v)
    (hW : DataW.Whole enc Tryz.prog Tryz.f4.params.toList Rows.runSameSpec.vars false W args.toList ds gs before) (hL : laidMetH Tryz.prog Rows.runSameRow.laid W) :
    Calls Tryz.prog 4 args W fun e W' => ∃ v, e = .returned v ∧ Rows.runSameSpec.post enc Tryz.prog Tryz.f4 false true false false W args v W' := by
  obtain ⟨ρ0, hr0⟩ := tables hL
  have hW' := hW
  obtain ⟨p, q, hA0, hV, rfl, hfz, hnd⟩ := hW
  obtain ⟨rfl, rfl⟩ := trodVars_none hV
  have hA : DataW.TrodAll enc Tryz.prog W 0 (fun _ => true) true [62, 62] args.toList ds p := hA0
  obtain ⟨ρ, A, avs, hr, hs, hle, hv, hrd⟩ := abs_all fine62 hA ρ0 A0 hr0
  obtain ⟨a0, a1, rfl⟩ : ∃ a b, avs = [a, b] := by
    rcases avs with _ | ⟨a, _ | ⟨b, _ | ⟨c, l⟩⟩⟩
    · exact absurd hrd id
    · exact absurd hrd.2 id
    · exact ⟨a, b, rfl⟩
    · exact absurd hrd.2.2 id
  obtain ⟨hd0, hd1, _⟩ := hrd
  obtain ⟨s0, hs0⟩ := rdg_shp hd0
  obtain ⟨s1, hs1⟩ := rdg_shp hd1
  have two : ∃ v0 v1, args = #[v0, v1] ∧ VR ρ a0 v0 ∧ VR ρ a1 v1 := by
    obtain ⟨l⟩ := args
    cases hv with
    | cons _ v0 _ l1 h0 h1 =>
      cases h1 with
      | cons _ v1 _ l2 h1 h2 =>
        cases h2
        exact ⟨v0, v1, rfl, h0, h1⟩
  obtain ⟨v0, v1, rfl, k0, k1⟩ := two
  have agg : ∀ (a v : Value), Value.okWide Tryz.prog W .any base 62 v → VR ρ a v → a = .agg ⟨a.cells.toList⟩ := by
    intro a v ho hvr
    unfold Value.okWide at ho
    rw [Tryz.underlying62] at ho
    obtain ⟨cs, rfl, _⟩ := ho
    cases hvr
    rfl
  have e0 := agg a0 v0 (hval 0 62 v0 rfl rfl) k0
  have e1 := agg a1 v1 (hval 1 62 v1 rfl rfl) k1
  have hv' : VRs ρ [.agg ⟨a0.cells.toList⟩, .agg ⟨a1.cells.toList⟩] (#[v0, v1] : Array Value).toList := by rw [← e0, ← e1]; exact hv
  refine (does_calls mixed hr hv' ((f4_ok (B := A.get) hle hs0 hs1).mono fun r _ _ _ h => h.2)).mono fun e W' ⟨he, h1, h2, h3, h4, h5⟩ => ⟨_, he, ?_⟩
  have hb : Below W.heap.size W W' := ⟨h4, h3, h5, h1, h2⟩
  have h2l : ∃ d0 d1, ds = [d0, d1] := by
    have hA2 : DataW.TrodAll enc Tryz.prog W 0 (fun _ => true) true [62, 62] [v0, v1] ds p := hA0
    obtain ⟨d0, ds1, rfl⟩ : ∃ d0 ds1, ds = d0 :: ds1 := by
      cases ds with
      | nil => exact absurd hA2 id
      | cons d l => exact ⟨d, l, rfl⟩
    obtain ⟨_, _, _, hA3, _⟩ := hA2
    obtain ⟨d1, ds2, rfl⟩ : ∃ d1 ds2, ds1 = d1 :: ds2 := by
      cases ds1 with
      | nil => exact absurd hA3 id
      | cons d l => exact ⟨d, l, rfl⟩
    obtain ⟨_, _, _, hA4, _⟩ := hA3
    cases ds2 with
    | nil => exact ⟨d0, d1, rfl⟩
    | cons d l => exact absurd hA4 id
  obtain ⟨d0, d1, rfl⟩ := h2l
  exact post_law laidOut read4 rfl rfl Tryz.underlying4 hW' rfl hb

/-- A world that holds the tables: the one that the door leaves. -/
theorem runSame_met (os : Os) (args : Array Value) : laidMetH Tryz.prog Rows.runSameRow.laid ((World.doorLaid Tryz.prog 600 os).forCall (fun _ _ => 0) ⟨#[], args, []⟩).memory :=
  laidMetH_of_parts3 (fuel := 8) (laidMet_of_run' 8 (by kernel_rfl) (by kernel_rfl)) (by kernel_rfl) (by kernel_rfl)
end Go.Proofs.YteoncjaiigfpaaaGreatDoor
