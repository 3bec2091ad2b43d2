import Derived.Test.YteoncjaiigfpaaaGreatDoorSx3
import Derived.OpenShut
import Derived.ChangeArms
import Derived.DataReads
import Derived.Below
import Derived.ChangeSame
import Derived.WideKeyArgs
set_option linter.all false
namespace Go.Ab
section
variable {P : Program}

/-- Do fields lie one behind the other? Where they end. -/
def tiles (P : Program) : List Field → Nat → Option Nat
  | [], o => some o
  | f :: fs, o => if f.offset = o then tiles P fs (o + P.cellsOf f.type) else none

theorem tiles_le : ∀ {fs : List Field} {o e : Nat}, tiles P fs o = some e → o ≤ e
  | [], o, e, h => by simp [tiles] at h; omega
  | f :: fs, o, e, h => by
    unfold tiles at h
    split at h
    · have := tiles_le h; omega
    · cases h

theorem tiles_whole : ∀ {fs : List Field} {o e : Nat} {cs : List Value}, tiles P fs o = some e → cs.length = e - o → (fs.map fun f => (cs.drop (f.offset - o)).take (P.cellsOf f.type)).flatten = cs
  | [], o, e, cs, h, hl => by simp [tiles] at h; subst h; simp at hl; simp [hl]
  | f :: fs, o, e, cs, h, hl => by
    unfold tiles at h
    split at h
    · next ho =>
      subst ho
      have hle := tiles_le h
      have ih := tiles_whole (cs := cs.drop (P.cellsOf f.type)) h (by simp [hl]; omega)
      rw [List.map_cons, List.flatten_cons, Nat.sub_self, List.drop_zero]
      have : (fs.map fun g => (cs.drop (g.offset - f.offset)).take (P.cellsOf g.type)) = (fs.map fun g => ((cs.drop (P.cellsOf f.type)).drop (g.offset - (f.offset + P.cellsOf f.type))).take (P.cellsOf g.type)) := by
        apply List.map_congr_left
        intro g hg
        have low : ∀ {fs : List Field} {o e : Nat}, tiles P fs o = some e → ∀ g ∈ fs, o ≤ g.offset := by
          intro fs
          induction fs with
          | nil => intro o e _ g hg; cases hg
          | cons f fs ih =>
            intro o e h g hg
            unfold tiles at h
            split at h
            · next ho =>
              rcases List.mem_cons.1 hg with rfl | hg
              · omega
              · have := ih h g hg; omega
            · cases h
        have := low h g hg
        rw [List.drop_drop, show P.cellsOf f.type + (g.offset - (f.offset + P.cellsOf f.type)) = g.offset - f.offset by omega]
      rw [this, ih, List.take_append_drop]
    · cases h

theorem tiles_part : ∀ {fs : List Field} {o e : Nat} {l : List (List Value)}, tiles P fs o = some e → l.length = fs.length → (∀ (i : Nat) f b, fs[i]? = some f → l[i]? = some b → b.length = P.cellsOf f.type) →
    l.flatten.length = e - o ∧ ∀ (i : Nat) f b, fs[i]? = some f → l[i]? = some b → o ≤ f.offset ∧ (l.flatten.drop (f.offset - o)).take (P.cellsOf f.type) = b
  | [], o, e, l, h, hl, _ => by
    simp [tiles] at h; subst h
    have : l = [] := List.length_eq_zero_iff.1 (by simpa using hl)
    subst this
    exact ⟨by simp, fun i f b hf => by simp at hf⟩
  | f :: fs, o, e, [], h, hl, _ => by simp at hl
  | f :: fs, o, e, x :: l, h, hl, hs => by
    unfold tiles at h
    split at h
    · next ho =>
      subst ho
      have hle := tiles_le h
      have hx := hs 0 f x rfl rfl
      obtain ⟨g1, g2⟩ := tiles_part h (by simpa using hl) (fun i f b hf hb => hs (i + 1) f b (by simpa using hf) (by simpa using hb))
      refine ⟨by simp [g1, hx]; omega, fun i g b hg hb => ?_⟩
      cases i with
      | zero => simp at hg hb; subst hg hb; simp [← hx]
      | succ i =>
        simp at hg hb
        obtain ⟨k1, k2⟩ := g2 i g b hg hb
        refine ⟨by omega, ?_⟩
        rw [List.flatten_cons, List.drop_append, List.drop_eq_nil_of_le (by omega), List.nil_append]
        rw [show g.offset - f.offset - x.length = g.offset - (f.offset + P.cellsOf f.type) by omega]
        exact k2
    · cases h

/-- Types of numbers, bools, texts, slices and structs of such. -/
def fineTy (P : Program) : Nat → TypeId → Bool
  | 0, _ => false
  | n + 1, t => match P.underlying t with
    | some .bool | some (.int _) | some .string => true
    | some (.slice e) => decide (1 ≤ P.cellsOf e) && fineTy P n e
    | some (.struct fs) => (tiles P fs.toList 0 == some (P.cellsOf t)) && fs.toList.all fun f => fineTy P n f.type
    | _ => false

/-- How data of such a type lie. -/
def Rdg (P : Program) : Nat → TypeId → Hp → List Value → Prop
  | 0, _, _, _ => False
  | n + 1, t, B, vs => match P.underlying t with
    | some .bool => ∃ b, vs = [.bool b]
    | some (.int k) => ∃ m, vs = [.int k m] ∧ (Lit.int k m).wf = true
    | some .string => ∃ s, vs = [.string s] ∧ s.size ≤ 9223372036854775807
    | some (.slice e) => ∃ base len cap, vs = [.slice base len cap] ∧ len ≤ cap ∧ cap ≤ 9223372036854775807 ∧ ∀ i, i < len → ∃ b off es, base = some ⟨b, off, none⟩ ∧ es.length = P.cellsOf e ∧ RdB B b (off + i * P.cellsOf e) es ∧ Rdg P n e B es
    | some (.struct fs) => vs.length = P.cellsOf t ∧ ∀ f ∈ fs.toList, Rdg P n f.type B ((vs.drop f.offset).take (P.cellsOf f.type))
    | _ => False

theorem Rdg.mono {B B' : Hp} (hb : BLe B B') : ∀ {n : Nat} {t : TypeId} {vs : List Value}, Rdg P n t B vs → Rdg P n t B' vs
  | 0, _, _, h => h
  | n + 1, t, vs, h => by
    unfold Rdg at h ⊢
    split at h <;> first | exact h | skip
    · obtain ⟨base, len, cap, h1, h2, h3, h4⟩ := h
      refine ⟨base, len, cap, h1, h2, h3, fun i hi => ?_⟩
      obtain ⟨b, off, es, g1, g2, g3, g4⟩ := h4 i hi
      exact ⟨b, off, es, g1, g2, g3.mono hb, Rdg.mono hb g4⟩
    · exact ⟨h.1, fun f hf => Rdg.mono hb (h.2 f hf)⟩

structure RelRo (P : Program) (ρ : Rho) (A : H) (w : World) : Prop where
  rel : Rel P ρ A w
  ro : A.ro = A.next

def ALe (A A' : H) : Prop := ∀ b x, A.get b = some x → A'.get b = some x
theorem ALe.refl (A : H) : ALe A A := fun _ _ h => h
theorem ALe.trans {A B C : H} (h : ALe A B) (k : ALe B C) : ALe A C := fun b x e => k b x (h b x e)

/-- A window of memory that is read and never written gets a name of its own. -/
theorem RelRo.add {ρ : Rho} {A : H} {w : World} (h : RelRo P ρ A w) (blk off : Nat) (cs : List Value) {arr : Array Value} {el : TypeId} {fz : Nat × Nat} (hw : w.heap[blk]? = some (.cells arr el fz))
    (hcs : ∀ (i : Nat) (v : Value), cs[i]? = some v → ∃ v', arr[off + i]? = some v' ∧ VR ρ v v') :
    ∃ ρ' A', RelRo P ρ' A' w ∧ Sub ρ ρ' ∧ ALe A A' ∧ A'.get A.next = some (.row cs 0) ∧ ρ' A.next = some ⟨blk, off, 0, arr.size⟩ := by
  have hs : Sub ρ (ρ.put A.next ⟨blk, off, 0, arr.size⟩) := by
    intro b L' hb
    unfold Rho.put
    split
    · next e => subst e; rw [h.rel.new _ (Nat.le_refl _)] at hb; cases hb
    · exact hb
  have hblk : blk < w.heap.size := (Array.getElem?_eq_some_iff.1 hw).1
  refine ⟨ρ.put A.next ⟨blk, off, 0, arr.size⟩, ⟨A.next + 1, A.next + 1, A.blks.set A.next (.row cs 0)⟩, ⟨⟨?_, ?_, ?_, ?_, Nat.le_refl _, ?_⟩, rfl⟩, hs, ?_, ?_, ?_⟩
  · intro b X hb
    have hb' : (A.push (.row cs 0)).get b = some X := by cases A; exact hb
    rw [H.get_push] at hb'
    split at hb'
    · next e =>
      subst e; cases hb'
      refine ⟨⟨blk, off, 0, arr.size⟩, by simp [Rho.put], rfl, arr, el, fz, hw, rfl, .inl (Nat.lt_succ_self _), fun i v hv => ?_⟩
      obtain ⟨v', g1, g2⟩ := hcs i v hv
      exact ⟨v', g1, g2.mono hs⟩
    · obtain ⟨L, g1, g2⟩ := h.rel.blk b X hb'
      exact ⟨L, hs _ _ g1, g2.mono hs (fun hlt => Nat.lt_succ_of_lt (h.ro ▸ hlt)) rfl⟩
  · intro b b' X X' L L' hro hb
    have hb' : (A.push (.row cs 0)).get b = some X := by cases A; exact hb
    have hlt : b < A.next + 1 := by
      rw [H.get_push] at hb'
      split at hb'
      · omega
      · exact Nat.lt_succ_of_lt (h.rel.lt hb')
    exact absurd hlt (Nat.not_lt.2 hro)
  · intro b L hb
    unfold Rho.put at hb
    split at hb
    · cases hb; exact hblk
    · exact h.rel.low b L hb
  · intro b hb
    have hb' : A.next + 1 ≤ b := hb
    unfold Rho.put
    rw [if_neg (by omega)]
    exact h.rel.new b (by omega)
  · intro g hg
    obtain ⟨L, h1, h2⟩ := h.rel.glob g hg
    exact ⟨L, hs _ _ h1, h2⟩
  · intro b x hb
    have e : (⟨A.next + 1, A.next + 1, A.blks.set A.next (.row cs 0)⟩ : H).get b = (A.push (.row cs 0)).get b := by cases A; rfl
    rw [e, H.get_push, if_neg (Nat.ne_of_lt (h.rel.lt hb))]
    exact hb
  · have e : (⟨A.next + 1, A.next + 1, A.blks.set A.next (.row cs 0)⟩ : H).get A.next = (A.push (.row cs 0)).get A.next := by cases A; rfl
    rw [e, H.get_push, if_pos rfl]
  · simp [Rho.put]

theorem mapM_cells {α : Type} {f : Nat → Option α} : ∀ {l : List Nat} {r : List α}, l.mapM f = some r → r.length = l.length ∧ ∀ (i n : Nat), l[i]? = some n → f n = r[i]?
  | [], r, h => by simp at h; subst h; exact ⟨rfl, fun i n hn => by simp at hn⟩
  | n :: l, r, h => by
    rw [List.mapM_cons] at h
    cases hn : f n with
    | none => simp [hn] at h
    | some x =>
      simp only [hn, Option.bind_eq_bind, Option.bind_some] at h
      cases hl : l.mapM f with
      | none => simp [hl] at h
      | some r' =>
        simp only [hl, Option.bind_some, Option.pure_def, Option.some.injEq] at h
        subst h
        obtain ⟨h1, h2⟩ := mapM_cells hl
        refine ⟨by simp [h1], fun i m hm => ?_⟩
        cases i with
        | zero => simp at hm; subst hm; simpa using hn
        | succ i => simp at hm; simpa using h2 i m hm

/-- Cells that are read, one by one. -/
theorem cells_get {w : World} {a : Addr} {n : Nat} {l : List Value} (h : w.cells? 0 a n = some l) : l.length = n ∧ ∀ i, i < n → w.cell? (a.add i) = l[i]? := by
  unfold World.cells? at h
  rw [if_pos (Nat.zero_le _)] at h
  obtain ⟨h1, h2⟩ := mapM_cells h
  refine ⟨by simpa using h1, fun i hi => h2 i i (by simp [hi])⟩

theorem cell_block {w : World} {a : Addr} {v : Value} (h : w.cell? a = some v) : ∃ arr el fz, w.heap[a.block]? = some (.cells arr el fz) ∧ a.spot = none ∧ arr[a.off]? = some v := by
  have hs := World.cell?_spot h
  unfold World.cell? at h
  split at h
  · next c t f hc =>
    rw [hs] at h
    exact ⟨c, t, f, hc, hs, by simpa using h⟩
  · cases h

theorem VRs.flatten {ρ : Rho} : ∀ {l : List (List Value)} {l' : List (List Value)}, l.length = l'.length → (∀ (i : Nat) a b, l[i]? = some a → l'[i]? = some b → VRs ρ a b) → VRs ρ l.flatten l'.flatten
  | [], [], _, _ => .nil
  | [], _ :: _, h, _ => by simp at h
  | _ :: _, [], h, _ => by simp at h
  | a :: l, b :: l', h, k => by
    rw [List.flatten_cons, List.flatten_cons]
    exact (k 0 a b rfl rfl).append (VRs.flatten (by simpa using h) fun i c d hc hd => k (i + 1) c d (by simpa using hc) (by simpa using hd))

theorem flatten_chunk {α : Type} {sz : Nat} : ∀ {l : List (List α)}, (∀ a ∈ l, a.length = sz) → l.flatten.length = l.length * sz ∧ ∀ i a, l[i]? = some a → (l.flatten.drop (i * sz)).take sz = a
  | [], _ => ⟨by simp, fun i a h => by simp at h⟩
  | x :: l, h => by
    have hx := h x (List.mem_cons_self ..)
    obtain ⟨h1, h2⟩ := flatten_chunk (l := l) (fun a ha => h a (List.mem_cons_of_mem _ ha))
    refine ⟨by simp [h1, hx, Nat.add_mul]; omega, fun i a hi => ?_⟩
    cases i with
    | zero => simp at hi; subst hi; simp [← hx]
    | succ i =>
      simp at hi
      rw [List.flatten_cons, Nat.add_mul, Nat.one_mul]
      rw [List.drop_append, List.drop_eq_nil_of_le (by omega), List.nil_append]
      rw [show i * sz + sz - x.length = i * sz by omega]
      exact h2 i a hi

section opens
variable {H' : Type} {enc : TypeId × Value → H'} {w : World} {sp : Nat → Bool} {n : Nat} {t : TypeId} {cs : List Value} {x : DataW H' × List MemPlace}
theorem trod_bool (ht : P.underlying t = some .bool) (h : DataW.trod enc P w 0 sp true n t cs = some x) : ∃ b, cs = [.bool b] := by
  cases n with
  | zero => simp [DataW.trod] at h
  | succ n =>
    unfold DataW.trod at h
    rw [ht] at h
    split at h <;> simp_all
theorem trod_int {k : IntKind} (ht : P.underlying t = some (.int k)) (h : DataW.trod enc P w 0 sp true n t cs = some x) : ∃ i, cs = [.int k i] ∧ (Lit.int k i).wf = true := by
  cases n with
  | zero => simp [DataW.trod] at h
  | succ n =>
    unfold DataW.trod at h
    rw [ht] at h
    split at h <;> simp_all
theorem trod_string (ht : P.underlying t = some .string) (h : DataW.trod enc P w 0 sp true n t cs = some x) : ∃ s, cs = [.string s] ∧ s.size ≤ maxLen := by
  cases n with
  | zero => simp [DataW.trod] at h
  | succ n =>
    unfold DataW.trod at h
    rw [ht] at h
    split at h <;> simp_all
end opens

/-- Chunks, one behind the other, each with its likeness. -/
theorem abs_chunks {w : World} {R : Nat → Hp → List Value → Prop} (hR : ∀ i B B' vs, BLe B B' → R i B vs → R i B' vs) : ∀ (k : Nat) (chunk : Nat → List Value), (∀ i, i < k → ∀ ρ A, RelRo P ρ A w → ∃ ρ' A' vs, RelRo P ρ' A' w ∧ Sub ρ ρ' ∧ ALe A A' ∧ VRs ρ' vs (chunk i) ∧ R i A'.get vs) →
    ∀ ρ A, RelRo P ρ A w → ∃ ρ' A', ∃ l : List (List Value), RelRo P ρ' A' w ∧ Sub ρ ρ' ∧ ALe A A' ∧ l.length = k ∧ ∀ i vs, l[i]? = some vs → VRs ρ' vs (chunk i) ∧ R i A'.get vs
  | 0, chunk, _, ρ, A, hr => ⟨ρ, A, [], hr, Sub.refl ρ, ALe.refl A, rfl, fun i vs h => by simp at h⟩
  | k + 1, chunk, h, ρ, A, hr => by
    obtain ⟨ρ1, A1, l, h1, h2, h3, h4, h5⟩ := abs_chunks hR k chunk (fun i hi => h i (by omega)) ρ A hr
    obtain ⟨ρ2, A2, vs, g1, g2, g3, g4, g5⟩ := h k (by omega) ρ1 A1 h1
    refine ⟨ρ2, A2, l ++ [vs], g1, h2.trans g2, h3.trans g3, by simp [h4], fun i us hi => ?_⟩
    rcases Nat.lt_or_ge i l.length with hl | hl
    · rw [List.getElem?_append_left hl] at hi
      exact ⟨(h5 i us hi).1.mono g2, hR _ _ _ _ g3 (h5 i us hi).2⟩
    · rw [List.getElem?_append_right hl] at hi
      have : i = k := by
        have := (List.getElem?_eq_some_iff.1 hi).1
        simp at this; omega
      subst this
      rw [h4] at hi
      simp at hi
      subst hi
      exact ⟨g4, g5⟩

/-- What reads as data has a likeness. -/
theorem abs_trod {H' : Type} {enc : TypeId × Value → H'} {w : World} {sp : Nat → Bool} (hsp : ∀ b, sp b = true) : ∀ (m : Nat) (t : TypeId) (n : Nat) (cs : List Value) (x : DataW H' × List MemPlace), fineTy P m t = true → DataW.trod enc P w 0 sp true n t cs = some x →
    ∀ ρ A, RelRo P ρ A w → ∃ ρ' A' vs, RelRo P ρ' A' w ∧ Sub ρ ρ' ∧ ALe A A' ∧ VRs ρ' vs cs ∧ Rdg P m t A'.get vs := by
  intro m
  induction m with
  | zero => intro t n cs x h; cases h
  | succ m ih =>
    intro t n cs x hf h ρ A hr
    unfold fineTy at hf
    cases ht : P.underlying t with
    | none => rw [ht] at hf; cases hf
    | some d =>
      rw [ht] at hf
      have same : ∀ vs : List Value, VRs ρ vs cs → Rdg P (m + 1) t A.get vs → ∃ ρ' A' vs, RelRo P ρ' A' w ∧ Sub ρ ρ' ∧ ALe A A' ∧ VRs ρ' vs cs ∧ Rdg P (m + 1) t A'.get vs :=
        fun vs h1 h2 => ⟨ρ, A, vs, hr, Sub.refl ρ, ALe.refl A, h1, h2⟩
      cases d
      case bool =>
        obtain ⟨b, rfl⟩ := trod_bool ht h
        exact same [.bool b] (.cons _ _ _ _ (.bool b) .nil) (by unfold Rdg; rw [ht]; exact ⟨b, rfl⟩)
      case int k =>
        obtain ⟨i, rfl, hi⟩ := trod_int ht h
        exact same [.int k i] (.cons _ _ _ _ (.int k i) .nil) (by unfold Rdg; rw [ht]; exact ⟨i, rfl, hi⟩)
      case string =>
        obtain ⟨s, rfl, hi⟩ := trod_string ht h
        exact same [.string s] (.cons _ _ _ _ (.string s) .nil) (by unfold Rdg; rw [ht]; exact ⟨s, rfl, hi⟩)
      case slice e =>
        simp only [Bool.and_eq_true, decide_eq_true_eq] at hf
        obtain ⟨hsz, hfe⟩ := hf
        rcases DataW.trod_slice ht h with ⟨rfl, _⟩ | ⟨a, len, cap, elems, rest, n', _, rfl, _, _, hlc, hcm, hel, hE, hR, _⟩
        · exact same [.slice none 0 0] (.cons _ _ _ _ .sliceNil .nil) (by unfold Rdg; rw [ht]; exact ⟨none, 0, 0, rfl, Nat.le_refl _, Nat.zero_le _, fun i hi => absurd hi (Nat.not_lt_zero _)⟩)
        · have hmax : cap ≤ 9223372036854775807 := hcm
          by_cases hc0 : cap = 0
          · subst hc0
            obtain rfl : len = 0 := by omega
            exact same [.slice (some ⟨0, 0, none⟩) 0 0] (.cons _ _ _ _ (.sliceEmpty ⟨0, 0, none⟩ a) .nil) (by unfold Rdg; rw [ht]; exact ⟨_, 0, 0, rfl, Nat.le_refl _, Nat.zero_le _, fun i hi => absurd hi (Nat.not_lt_zero _)⟩)
          · have read : ∀ i, i < len → ∃ cs, w.cells? 0 (a.add (i * P.cellsOf e)) (P.cellsOf e) = some cs ∧ ∃ y, DataW.trod enc P w 0 sp true n' e cs = some y := by
              intro i hi
              have h1 := hE i hi
              rw [List.getElem?_eq_getElem (by omega)] at h1
              obtain ⟨cs, h2, h3⟩ := Option.bind_eq_some_iff.1 h1
              exact ⟨cs, h2, _, h3⟩
            have hblk : ∀ (a : Addr) (i : Nat), (a.add i).block = a.block := fun a i => by unfold Addr.add; split <;> rfl
            have add0 : ∀ (a : Addr), a.add 0 = a := fun a => by simp [Addr.add]
            have first : ∃ v, w.cell? a = some v := by
              by_cases hl : len = 0
              · obtain ⟨r1, r2⟩ := hR (hsp _)
                have h1 := r2 0 (by omega)
                rw [List.getElem?_eq_getElem (by omega)] at h1
                obtain ⟨cs, h2, _⟩ := Option.bind_eq_some_iff.1 h1
                obtain ⟨g1, g2⟩ := cells_get h2
                have g3 := g2 0 hsz
                rw [List.getElem?_eq_getElem (by omega)] at g3
                rw [hl, Nat.add_zero, Nat.zero_mul, add0, add0] at g3
                exact ⟨_, g3⟩
              · obtain ⟨cs, h2, _⟩ := read 0 (by omega)
                obtain ⟨g1, g2⟩ := cells_get h2
                have g3 := g2 0 hsz
                rw [List.getElem?_eq_getElem (by omega)] at g3
                rw [Nat.zero_mul, add0, add0] at g3
                exact ⟨_, g3⟩
            obtain ⟨v0, hv0⟩ := first
            obtain ⟨arr, el, fz, hw, hspot, _⟩ := cell_block hv0
            -- the world's chunks
            let chunk : Nat → List Value := fun i => (w.cells? 0 (a.add (i * P.cellsOf e)) (P.cellsOf e)).getD []
            have hchunk : ∀ i, i < len → w.cells? 0 (a.add (i * P.cellsOf e)) (P.cellsOf e) = some (chunk i) := fun i hi => by
              obtain ⟨cs, h2, _⟩ := read i hi
              simp only [chunk, h2, Option.getD_some]
            obtain ⟨ρ1, A1, l, h1, h2, h3, h4, h5⟩ := abs_chunks (R := fun _ => Rdg P m e) (fun _ _ _ _ hb => Rdg.mono hb) len chunk (fun i hi ρ A hr => by
              obtain ⟨cs, g2, y, g3⟩ := read i hi
              have : chunk i = cs := by simp only [chunk, g2, Option.getD_some]
              rw [this]
              exact ih e n' cs y hfe g3 ρ A hr) ρ A hr
            have hlen : ∀ b ∈ l, b.length = P.cellsOf e := fun b hb => by
              obtain ⟨i, hi⟩ := List.mem_iff_getElem?.1 hb
              have hi' : i < len := by rw [← h4]; exact (List.getElem?_eq_some_iff.1 hi).1
              rw [(h5 i b hi).1.length]
              exact (cells_get (hchunk i hi')).1
            obtain ⟨hfl, hch⟩ := flatten_chunk hlen
            -- the spot is none if anything is read
            have cells : ∀ (j : Nat) (v : Value), l.flatten[j]? = some v → ∃ v', arr[a.off + j]? = some v' ∧ VR ρ1 v v' := by
              intro j v hj
              have hjl : j < len * P.cellsOf e := by rw [← h4, ← hfl]; exact (List.getElem?_eq_some_iff.1 hj).1
              have hi : j / P.cellsOf e < len := (Nat.div_lt_iff_lt_mul hsz).2 hjl
              have hmod : j % P.cellsOf e < P.cellsOf e := Nat.mod_lt _ hsz
              have hdm : j / P.cellsOf e * P.cellsOf e + j % P.cellsOf e = j := by rw [Nat.mul_comm]; exact Nat.div_add_mod _ _
              obtain ⟨b, hb⟩ : ∃ b, l[j / P.cellsOf e]? = some b := ⟨_, List.getElem?_eq_getElem (by omega)⟩
              have e1 : b[j % P.cellsOf e]? = some v := by
                rw [← hch _ b hb, List.getElem?_take_of_lt hmod, List.getElem?_drop, hdm]
                exact hj
              obtain ⟨v', g1, g2⟩ := (h5 _ b hb).1.get e1
              have g3 := (cells_get (hchunk _ hi)).2 _ hmod
              rw [g1] at g3
              obtain ⟨arr', el', fz', k1, k2, k3⟩ := cell_block g3
              rw [hblk, hblk] at k1
              rw [hw] at k1
              cases k1
              refine ⟨v', ?_, g2⟩
              have : ((a.add (j / P.cellsOf e * P.cellsOf e)).add (j % P.cellsOf e)).off = a.off + j := by
                have off : ∀ (a : Addr) (n : Nat), (a.add n).off = a.off + n := fun a n => by unfold Addr.add; split <;> simp_all
                rw [off, off, Nat.add_assoc, hdm]
              rw [← this]; exact k3
            obtain ⟨ρ2, A2, q1, q2, q3, q4, q5⟩ := h1.add a.block a.off l.flatten hw cells
            refine ⟨ρ2, A2, [.slice (some ⟨A1.next, 0, none⟩) len cap], q1, h2.trans q2, h3.trans q3, .cons _ _ _ _ ?_ .nil, ?_⟩
            · have := VR.slice (ρ := ρ2) A1.next 0 len cap _ (by unfold topCap; omega) q5
              obtain ⟨ab, ao, as⟩ := a
              simp only at hspot
              subst hspot
              simpa using this
            · unfold Rdg
              rw [ht]
              refine ⟨_, len, cap, rfl, hlc, hmax, fun i hi => ?_⟩
              obtain ⟨b, hb⟩ : ∃ b, l[i]? = some b := ⟨_, List.getElem?_eq_getElem (by omega)⟩
              have hbl := hlen b (List.mem_of_getElem? hb)
              refine ⟨A1.next, 0, b, rfl, hbl, ⟨l.flatten, 0, q4, ?_⟩, (h5 i b hb).2.mono q3⟩
              unfold takeAt
              have hle : (i + 1) * P.cellsOf e ≤ len * P.cellsOf e := Nat.mul_le_mul_right _ hi
              rw [Nat.add_mul, Nat.one_mul] at hle
              rw [if_pos (by rw [hfl, h4, hbl]; omega), hbl, Nat.zero_add, hch i b hb]
      case struct fs =>
        simp only [Bool.and_eq_true, beq_iff_eq, List.all_eq_true] at hf
        obtain ⟨htl, hff⟩ := hf
        obtain ⟨xs, n', _, _, hlen, hxl, hall⟩ := DataW.trod_struct ht h
        have hxs : xs.length = fs.toList.length := by simpa using hxl
        obtain ⟨ρ1, A1, l, h1, h2, h3, h4, h5⟩ := abs_chunks (R := fun i B vs => ∀ f, fs.toList[i]? = some f → Rdg P m f.type B vs) (fun i B B' vs hb h f hf => (h f hf).mono hb) fs.toList.length
          (fun i => match fs.toList[i]? with | some f => (cs.drop f.offset).take (P.cellsOf f.type) | none => []) (fun i hi ρ A hr => by
            obtain ⟨f, hf⟩ : ∃ f, fs.toList[i]? = some f := ⟨_, List.getElem?_eq_getElem hi⟩
            have hf' : fs[i]? = some f := by simpa using hf
            have g1 := hall i f hf'
            rw [List.getElem?_eq_getElem (by omega)] at g1
            obtain ⟨ρ1, A1, vs, k1, k2, k3, k4, k5⟩ := ih f.type n' _ _ (hff f (List.mem_of_getElem? hf)) g1 ρ A hr
            refine ⟨ρ1, A1, vs, k1, k2, k3, ?_, fun f' hf2 => ?_⟩
            · simp only [hf]; exact k4
            · rw [hf] at hf2; cases hf2; exact k5) ρ A hr
        have hlens : ∀ (i : Nat) f b, fs.toList[i]? = some f → l[i]? = some b → b.length = P.cellsOf f.type := fun i f b hf hb => by
          have g1 := (h5 i b hb).1.length
          simp only [hf] at g1
          rw [g1, List.length_take, List.length_drop, hlen]
          have g2 := tiles_part (l := fs.toList.map fun f => (cs.drop (f.offset - 0)).take (P.cellsOf f.type)) htl (by simp)
          -- a field lies within
          have within : ∀ {fs : List Field} {o e : Nat}, tiles P fs o = some e → ∀ g ∈ fs, g.offset + P.cellsOf g.type ≤ e := by
            intro fs
            induction fs with
            | nil => intro o e _ g hg; cases hg
            | cons f fs ih =>
              intro o e h g hg
              unfold tiles at h
              split at h
              · next ho =>
                rcases List.mem_cons.1 hg with rfl | hg
                · have := tiles_le h; omega
                · exact ih h g hg
              · cases h
          have := within htl f (List.mem_of_getElem? hf)
          omega
        obtain ⟨k1, k2⟩ := tiles_part htl h4 hlens
        have hwhole := tiles_whole (cs := cs) htl (by simpa using hlen)
        refine ⟨ρ1, A1, l.flatten, h1, h2, h3, ?_, ?_⟩
        · rw [← hwhole]
          refine VRs.flatten (by simp [h4]) fun i a b ha hb => ?_
          rw [List.getElem?_map] at hb
          cases hf : fs.toList[i]? with
          | none => rw [hf] at hb; cases hb
          | some f =>
            rw [hf] at hb
            simp only [Option.map_some, Option.some.injEq, Nat.sub_zero] at hb
            have g1 := (h5 i a ha).1
            simp only [hf] at g1
            rw [← hb]; exact g1
        · unfold Rdg
          rw [ht]
          refine ⟨by simpa using k1, fun f hf => ?_⟩
          obtain ⟨i, hi⟩ := List.mem_iff_getElem?.1 hf
          obtain ⟨b, hb⟩ : ∃ b, l[i]? = some b := ⟨_, List.getElem?_eq_getElem (by rw [h4]; exact (List.getElem?_eq_some_iff.1 hi).1)⟩
          have := (k2 i f b hi hb).2
          rw [Nat.sub_zero] at this
          rw [this]
          exact (h5 i b hb).2 f hi
      all_goals cases hf
end
end Go.Ab

namespace Go.Ab
section
variable {P : Program}

theorem RelRo.st {ρ : Rho} {A : H} {w : World} (h : RelRo P ρ A w) : St1 A.get [] A where
  base := fun b x hb => ⟨hb, h.rel.lt hb⟩
  at_ := fun b x hb => by cases hb
  rsv := fun b hb => by cases hb
  low := fun b hb => by cases hb
  nod := List.nodup_nil
  ro := h.rel.ro
  fresh := fun b hb => by
    cases hg : A.get b with
    | none => rfl
    | some x => exact absurd (h.rel.lt hg) (Nat.not_lt.2 hb)

/-- What is known of a call over a likeness, of the call itself: all that there was stays. -/
theorem does_calls (hm : P.follows .mixedOrders = true) {f : FuncId} {args : List Value} {args' : Array Value} {ρ : Rho} {A : H} {w : World} {b : Bool} (hr : RelRo P ρ A w) (hv : VRs ρ args args'.toList)
    (h : Does P f args A.get [] (fun r _ _ => r = .ret (.bool b))) : Calls P f args' w fun e w' => e = .returned (.bool b) ∧ w.heap.size ≤ w'.heap.size ∧ (∀ c, c < w.heap.size → w'.heap[c]? = w.heap[c]?) ∧ w'.tape = w.tape ∧ w'.os = w.os ∧ w'.output = w.output := by
  obtain ⟨r, A', B', K', ⟨n, h1⟩, _, _, _, hq⟩ := h A [] hr.st
  subst hq
  refine ((aS_sound hm n f args A _ A' (h1 n (Nat.le_refl n))).2 ρ w args' hr.rel hv).mono fun e w' hp => ?_
  obtain ⟨ρ', hmv, he⟩ := hp
  cases he with
  | ret _ v hv => cases hv; exact ⟨rfl, hmv.size, fun c hc => hmv.block c hc (fun x X L hx hro => absurd (hr.rel.lt hx) (Nat.not_lt.2 (hr.ro ▸ hro))), hmv.tape, hmv.os, hmv.output⟩

/-- Functions that capture nothing, and nil ones: the same in each likeness. -/
def closedV : Value → Bool
  | .nilFunc => true
  | .func _ f c => f.toList.isEmpty && c.toList.isEmpty
  | _ => false
theorem closedV_vr {ρ ρ0 : Rho} {v v' : Value} (hc : closedV v = true) (h : VR ρ v v') : VR ρ0 v v' := by
  cases h <;> first | cases hc | skip
  · next fn f f' c c' h1 h2 =>
    simp only [closedV, Bool.and_eq_true, List.isEmpty_iff] at hc
    rw [hc.1] at h1
    rw [hc.2] at h2
    refine .func _ _ _ _ _ ?_ ?_
    · rw [hc.1]; cases hf : f'.toList with
      | nil => exact .nil
      | cons a l => rw [hf] at h1; cases h1
    · rw [hc.2]; cases hf : c'.toList with
      | nil => exact .nil
      | cons a l => rw [hf] at h2; cases h2
  · exact .nilFunc

/-- Of a likeness that has the first n blocks of functions: these alone. -/
theorem rel_tables {ρ : Rho} {A A0 : H} {w : World} (h : Rel P ρ A w) (hn : A0.ro = A0.next) (hg : P.globals.size ≤ A0.next) (hlow : ∀ b X, A0.get b = some X → b < A0.next ∧ A.get b = some X ∧ ∃ cs z, X = .row cs z ∧ cs.all closedV = true) :
    Rel P (fun b => if b < A0.next then ρ b else none) A0 w where
  blk := fun b X hb => by
    obtain ⟨h1, h2, cs, z, rfl, hc⟩ := hlow b X hb
    obtain ⟨L, g1, g2, arr, el, fz, g3, g4, g5, g6⟩ := h.blk b _ h2
    refine ⟨L, by simp only [if_pos h1]; exact g1, g2, arr, el, fz, g3, g4, .inl (hn ▸ h1), fun i v hi => ?_⟩
    obtain ⟨v', k1, k2⟩ := g6 i v hi
    exact ⟨v', k1, closedV_vr (List.all_eq_true.1 hc v (List.mem_of_getElem? hi)) k2⟩
  inj := fun b b' X X' L L' hro hb => absurd (hlow b X hb).1 (Nat.not_lt.2 (hn ▸ hro))
  low := fun b L hb => by
    split at hb
    · exact h.low b L hb
    · cases hb
  new := fun b hb => if_neg (Nat.not_lt.2 hb)
  ro := by rw [hn]; exact Nat.le_refl _
  glob := fun g hg' => by
    obtain ⟨L, h1, h2⟩ := h.glob g hg'
    exact ⟨L, by simp only [if_pos (Nat.lt_of_lt_of_le hg' hg)]; exact h1, h2⟩

theorem snd_of_tables {f : FuncId} {A0 : H} (hn : A0.ro = A0.next) (hg : P.globals.size ≤ A0.next) (hc : ∀ b X, A0.get b = some X → b < A0.next ∧ ∃ cs z, X = .row cs z ∧ cs.all closedV = true)
    (hcall : ∀ ρ w, Rel P ρ A0 w → Calls P f #[] w fun e w' => e = .returned (.bool true) ∧ ∃ ρ' A', Mv P ρ A0 w ρ' A' w')
    {A : H} (hA : ∀ b X, A0.get b = some X → A.get b = some X) : SndTrue P f A := by
  intro ρ w hr
  have h0 := rel_tables (A0 := A0) hr hn hg fun b X hb => ⟨(hc b X hb).1, hA b X hb, (hc b X hb).2⟩
  refine (hcall _ w h0).mono fun e w' ⟨he, ρ', A', hm⟩ => ⟨he, hm.size, fun c hc' => hm.block c hc' fun b X L hb hro => absurd (hc b X hb).1 (Nat.not_lt.2 (hn ▸ hro)), hm.tape, hm.os, hm.output⟩
end
end Go.Ab

namespace Go.Ab
open Go.RowKit Go.WideShapes Go.ChangeShapes
section
variable {H' : Type} {enc : TypeId × Value → H'} {P : Program}

/-- What was read stays readable where all that there was stays. -/
theorem trodAll_stays (hl : laidOutB P = true) {W W' : World} (hb : Below W.heap.size W W') {sp' : Nat → Bool} : ∀ {ts : List TypeId} {vs : List Value} {ds : List (DataW H')} {ps : List MemPlace}, (ts.all fun t => P.readableRec t && decide (t < P.types.size)) = true →
    DataW.TrodAll enc P W 0 (fun _ => true) true ts vs ds ps → (∀ p ∈ ps, p.block < W.heap.size) → (∀ p ∈ ps, sp' p.block = true) → DataW.TrodAll enc P W' 0 sp' true ts vs ds ps
  | [], [], [], ps, _, h, _, _ => h
  | [], _ :: _, _, _, _, h, _, _ => absurd h id
  | [], [], _ :: _, _, _, h, _, _ => absurd h id
  | _ :: _, [], _, _, _, h, _, _ => absurd h id
  | _ :: _, _ :: _, [], _, _, h, _, _ => absurd h id
  | t :: ts, v :: vs, d :: ds, ps, ht, h, hlt, hsp => by
    obtain ⟨p, q, h1, h2, rfl⟩ := h
    simp only [List.all_cons, Bool.and_eq_true, decide_eq_true_eq] at ht
    refine ⟨p, q, Go.WideElems.Trod_stays hl ht.1.1 ht.1.2 h1 (fun x hx => ?_) (fun x hx => hsp x (List.mem_append_left _ hx)), trodAll_stays hl hb ht.2 h2 (fun x hx => hlt x (List.mem_append_right _ hx)) (fun x hx => hsp x (List.mem_append_right _ hx)), rfl⟩
    have hx' := hlt x (List.mem_append_left _ hx)
    cases x with
    | cell b off =>
      show W'.cell? ⟨b, off, none⟩ = W.cell? ⟨b, off, none⟩
      exact hb.cell (p := ⟨b, off, none⟩) hx'
    | map b => exact hb.block b hx'

/-- The end of a law's walk, of which is known that all that there was stays. -/
theorem post_law {f : Func} {s : ChangeSpec} {W W' : World} {args : Array Value} {ds : List (DataW H')} {before : List MemPlace} (hl : laidOutB P = true) (hts : (f.params.toList.all fun t => P.readableRec t && decide (t < P.types.size)) = true)
    (hv : s.vars = []) (hrt : f.resultTypes = #[4]) (hbool : P.underlying 4 = some .bool)
    (hW : DataW.Whole enc P f.params.toList [] false W args.toList ds [] before)
    (hfn : s.fn H' (ds ++ []) = { results := [.lit (.bool true)], args := ds, vars := [] }) (hb : Below W.heap.size W W') :
    s.post enc P f false true false false W args (.bool true) W' := by
  have hW0 : DataW.Whole enc P f.params.toList s.vars false W args.toList ds [] before := by rw [hv]; exact hW
  have hlt : ∀ p ∈ before, p.block < W.heap.size := fun p hp => hW.lt p hp
  obtain ⟨pa, pv, hA, hV, hps, hz, hn⟩ := hW
  have hpv : pv = [] := hV
  subst hpv
  rw [List.append_nil] at hps
  subst hps
  have hold : ∀ p ∈ before, (fun b => decide (b < W.heap.size)) p.block = true := fun p hp => by simpa using hlt p hp
  have hargs : ∀ sp : Nat → Bool, (∀ p ∈ before, sp p.block = true) → DataW.TrodAll enc P W' 0 sp true f.params.toList args.toList (s.fn H' (ds ++ [])).args before := fun sp hsp => by
    rw [hfn]; exact trodAll_stays hl hb hts hA hlt hsp
  have hres : ∀ (b : Nat) (sp : Nat → Bool) (hd : Bool), DataW.TrodAll enc P W' b sp hd f.resultTypes.toList ((Value.bool true).resultList f.resultTypes.size) (s.fn H' (ds ++ [])).results [] := fun b sp hd => by
    rw [hfn, hrt]
    exact ⟨[], [], ⟨1, by simp [DataW.trod, hbool, Value.cells]⟩, rfl, rfl⟩
  refine ⟨ds, [], before, [], before, [], hW0, hres _ _ _, hargs _ hold, ?_, World.keptBut_mono (fun p hp => ⟨hp, ?_⟩) (hb.frame (· ∈ before)), fun _ => ?_⟩
  · rw [hv, hfn]; rfl
  · exact Or.inr (Or.inl hp)
  · refine ⟨fun j t r hj hr => ?_, _, [], ([] ++ before) ++ [], ⟨[] ++ before, [], trodAll_append (hargs _ (fun _ _ => rfl)) (hres _ _ _), ?_, rfl, ?_, ?_⟩, ?_⟩
    · rw [hrt] at hj hr
      have : j = 0 := by
        rcases j with _ | j
        · rfl
        · simp at hj
      subst this
      simp at hj
      subst hj
      have hr' : r = .bool true := by
        simp [Value.resultList] at hr
        exact hr.symm
      subst hr'
      exact okWide_bool_mk hbool _
    · rw [hv]; rfl
    · intro b off hp
      have hin : MemPlace.cell b off ∈ before := by simpa using hp
      rw [hb.frozen (hlt _ hin)]
      exact hz b off hin
    · intro ha; cases ha
    · intro p hp _
      simpa using hp

theorem value_cells {ρ : Rho} {vs : List Value} {v : Value} (h : VRs ρ vs v.cells.toList) : ∃ av, VR ρ av v ∧ av.cells.toList = vs := by
  by_cases ha : ∃ cs, v = .agg cs
  · obtain ⟨cs, rfl⟩ := ha
    exact ⟨.agg vs.toArray, .agg _ _ (by simpa [Value.cells] using h), by simp [Value.cells]⟩
  · have hc : v.cells = #[v] := by
      cases v <;> first | rfl | exact absurd ⟨_, rfl⟩ ha
    rw [hc] at h
    cases h with
    | cons x _ l _ h1 h2 =>
      cases h2
      refine ⟨x, h1, ?_⟩
      cases h1 <;> first | rfl | exact absurd ⟨_, rfl⟩ ha

def RdgAll (P : Program) (m : Nat) (B : Hp) : List TypeId → List Value → Prop
  | [], [] => True
  | t :: ts, v :: vs => Rdg P m t B v.cells.toList ∧ RdgAll P m B ts vs
  | _, _ => False
theorem RdgAll.mono {m : Nat} {B B' : Hp} (hb : BLe B B') : ∀ {ts : List TypeId} {vs : List Value}, RdgAll P m B ts vs → RdgAll P m B' ts vs
  | [], [], h => h
  | [], _ :: _, h => h
  | _ :: _, [], h => h
  | _ :: _, _ :: _, h => ⟨Rdg.mono hb h.1, RdgAll.mono hb h.2⟩

/-- What arguments are has a likeness. -/
theorem abs_all {W : World} {m : Nat} : ∀ {ts : List TypeId} {vs : List Value} {ds : List (DataW H')} {ps : List MemPlace}, (ts.all fun t => fineTy P m t) = true → DataW.TrodAll enc P W 0 (fun _ => true) true ts vs ds ps → ∀ ρ A, RelRo P ρ A W →
    ∃ ρ' A' avs, RelRo P ρ' A' W ∧ Sub ρ ρ' ∧ ALe A A' ∧ VRs ρ' avs vs ∧ RdgAll P m A'.get ts avs
  | [], [], [], ps, _, h, ρ, A, hr => ⟨ρ, A, [], hr, Sub.refl ρ, ALe.refl A, .nil, trivial⟩
  | [], _ :: _, _, _, _, h, _, _, _ => absurd h id
  | [], [], _ :: _, _, _, h, _, _, _ => absurd h id
  | _ :: _, [], _, _, _, h, _, _, _ => absurd h id
  | _ :: _, _ :: _, [], _, _, h, _, _, _ => absurd h id
  | t :: ts, v :: vs, d :: ds, ps, ht, h, ρ, A, hr => by
    obtain ⟨p, q, ⟨n, h1⟩, h2, rfl⟩ := h
    simp only [List.all_cons, Bool.and_eq_true] at ht
    obtain ⟨ρ1, A1, cs, g1, g2, g3, g4, g5⟩ := abs_trod (fun _ => rfl) m t n _ _ ht.1 h1 ρ A hr
    obtain ⟨av, k1, k2⟩ := value_cells g4
    obtain ⟨ρ2, A2, avs, e1, e2, e3, e4, e5⟩ := abs_all ht.2 h2 ρ1 A1 g1
    refine ⟨ρ2, A2, av :: avs, e1, g2.trans e2, g3.trans e3, .cons _ _ _ _ (k1.mono e2) e4, ?_, e5⟩
    rw [k2]; exact Rdg.mono e3 g5

/-! From readable data to their likes. -/
theorem rdg_int {n : Nat} {t : TypeId} {k : IntKind} {B : Hp} {vs : List Value} (ht : P.underlying t = some (.int k)) (h : Rdg P (n + 1) t B vs) : ∃ m, vs = [.int k m] ∧ (Lit.int k m).wf = true := by
  unfold Rdg at h; rw [ht] at h; exact h
theorem rdg_bool {n : Nat} {t : TypeId} {B : Hp} {vs : List Value} (ht : P.underlying t = some .bool) (h : Rdg P (n + 1) t B vs) : ∃ b, vs = [.bool b] := by
  unfold Rdg at h; rw [ht] at h; exact h
theorem rdg_string {n : Nat} {t : TypeId} {B : Hp} {vs : List Value} (ht : P.underlying t = some .string) (h : Rdg P (n + 1) t B vs) : ∃ s, vs = [.string s] ∧ s.size ≤ 9223372036854775807 := by
  unfold Rdg at h; rw [ht] at h; exact h
theorem rdg_struct {n : Nat} {t : TypeId} {fs : Array Field} {B : Hp} {vs : List Value} (ht : P.underlying t = some (.struct fs)) (h : Rdg P (n + 1) t B vs) : vs.length = P.cellsOf t ∧ ∀ f ∈ fs.toList, Rdg P n f.type B ((vs.drop f.offset).take (P.cellsOf f.type)) := by
  unfold Rdg at h; rw [ht] at h; exact h
theorem rdg_slice {n : Nat} {t e : TypeId} {B : Hp} {vs : List Value} {α : Type} {R : Hp → List Value → α → Prop} (ht : P.underlying t = some (.slice e)) (hel : ∀ es, es.length = P.cellsOf e → Rdg P n e B es → ∃ x, R B es x) (h : Rdg P (n + 1) t B vs) :
    ∃ base cap xs, vs = [.slice base xs.length cap] ∧ SlB (P.cellsOf e) R B (.slice base xs.length cap) xs := by
  unfold Rdg at h; rw [ht] at h
  obtain ⟨base, len, cap, rfl, h1, h2, h3⟩ := h
  have : ∃ xs : List α, xs.length = len ∧ ∀ i x, xs[i]? = some x → ∃ b off vs, base = some ⟨b, off, none⟩ ∧ vs.length = P.cellsOf e ∧ RdB B b (off + i * P.cellsOf e) vs ∧ R B vs x := by
    have step : ∀ k, k ≤ len → ∃ xs : List α, xs.length = k ∧ ∀ i x, xs[i]? = some x → ∃ b off vs, base = some ⟨b, off, none⟩ ∧ vs.length = P.cellsOf e ∧ RdB B b (off + i * P.cellsOf e) vs ∧ R B vs x := by
      intro k
      induction k with
      | zero => intro _; exact ⟨[], rfl, fun i x hx => by simp at hx⟩
      | succ k ih =>
        intro hk
        obtain ⟨xs, g1, g2⟩ := ih (by omega)
        obtain ⟨b, off, es, g3, g4, g5, g6⟩ := h3 k (by omega)
        obtain ⟨x, hx⟩ := hel es g4 g6
        refine ⟨xs ++ [x], by simp [g1], fun i y hy => ?_⟩
        rcases Nat.lt_or_ge i xs.length with hl | hl
        · rw [List.getElem?_append_left hl] at hy; exact g2 i y hy
        · rw [List.getElem?_append_right hl] at hy
          have : i = k := by
            have := (List.getElem?_eq_some_iff.1 hy).1
            simp at this; omega
          subst this
          rw [g1, Nat.sub_self] at hy
          simp at hy
          subst hy
          exact ⟨b, off, es, g3, g4, g5, hx⟩
    exact step len (Nat.le_refl _)
  obtain ⟨xs, rfl, hx⟩ := this
  exact ⟨base, cap, xs, rfl, base, cap, rfl, by omega, hx⟩
end
end Go.Ab
