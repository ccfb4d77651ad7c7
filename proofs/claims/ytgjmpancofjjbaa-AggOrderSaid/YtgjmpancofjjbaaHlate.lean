/- A drawn region whose first store waits for the loads: a load of a cell that the region writes may be taken first, since the store comes behind it in every order. -/
import Derived.OrdersHeld
import Derived.Deep.RegionHeld
namespace Go.Proofs.Ytgjmpancofjjbaa.Hlate
open Go
set_option linter.unusedVariables false
section
variable {P : Program} {ops : Array Oper} {Q : Exit → Act → World → Prop} {md : Region.Mode} {S S' : World → Prop}
/-- Whatever order is picked from here on; S holds behind every operation as long as operation j0 has not come up. -/
def wpAnyT (P : Program) (md : Region.Mode) (ops : Array Oper) (Q : Exit → Act → World → Prop) (S : World → Prop) (j0 : Nat) : Nat → Array Bool → Act → World → Prop
  | 0, listed, a, w => Region.ready md ops listed = [] ∧ Q .normal a w
  | fuel + 1, listed, a, w =>
    (Region.ready md ops listed = [] → Q .normal a w) ∧
    ∀ i ∈ Region.ready md ops listed, wpOp P ops Q i (fun a' w' => (i ≠ j0 → listed.getD j0 false = false → S w') ∧ wpAnyT P md ops Q S j0 fuel (listed.setIfInBounds i true) a' w') a w
theorem wpAny_of_late {j0 : Nat} : ∀ (fuel : Nat) (listed : Array Bool) (a : Act) (w : World), wpAnyT P md ops Q S j0 fuel listed a w → wpAny P md ops Q fuel listed a w
  | 0, _, _, _, h => h
  | fuel + 1, _, _, _, h => ⟨h.1, fun i hi => wpOp_mono (fun a' w' h' => wpAny_of_late fuel _ a' w' h'.2) (h.2 i hi)⟩
/-- What has come up has all come up for which it waits. -/
def Closed (md : Region.Mode) (ops : Array Oper) (listed : Array Bool) : Prop := ∀ j o, ops[j]? = some o → listed.getD j false = true → ∀ e ∈ o.after, Region.binds md e = true → listed.getD e.on false = true
def closedB (md : Region.Mode) (ops : Array Oper) (listed : Array Bool) : Bool := (List.range ops.size).all fun j => !listed.getD j false || ((ops[j]?).map (·.after.all fun e => !Region.binds md e || listed.getD e.on false)).getD true
theorem closed_of {listed : Array Bool} (h : closedB md ops listed = true) : Closed md ops listed := by
  intro j o ho hl e he hb
  unfold closedB at h
  rw [List.all_eq_true] at h
  have hj : j < ops.size := by
    rcases Nat.lt_or_ge j ops.size with h' | h'
    · exact h'
    · rw [Array.getElem?_eq_none h'] at ho; cases ho
  have h1 := h j (List.mem_range.2 hj)
  rw [hl, ho] at h1
  simp only [Bool.not_true, Bool.false_or, Option.map_some, Option.getD_some, Array.all_eq_true_iff_forall_mem] at h1
  have h2 := h1 e he
  rw [hb] at h2
  simpa using h2
theorem lt_of_ready {j : Nat} {listed : Array Bool} (hj : j ∈ Region.ready md ops listed) : j < listed.size := by
  have h := (mem_ready.1 hj).1
  rcases Nat.lt_or_ge j listed.size with h' | h'
  · exact h'
  · rw [Array.getD_eq_getD_getElem?, Array.getElem?_eq_none h'] at h; cases h
theorem closed_set {j : Nat} {listed : Array Bool} (hc : Closed md ops listed) (hj : j ∈ Region.ready md ops listed) : Closed md ops (listed.setIfInBounds j true) := by
  intro k o ho hl e he hb
  by_cases hjk : j = k
  · subst hjk
    obtain ⟨_, o', ho', hall⟩ := mem_ready.1 hj
    rw [ho] at ho'
    obtain rfl := Option.some.inj ho'
    exact getD_set_true (hall e he hb)
  · rw [getD_set_ne false hjk] at hl
    exact getD_set_true (hc k o ho hl e he hb)
/-- Each of a chain waits for the one ahead. -/
def pathB (md : Region.Mode) (ops : Array Oper) : Nat → List Nat → Bool
  | _, [] => true
  | i, p :: ps => ((ops[p]?).map (·.after.toList.any fun e => Region.binds md e && e.on == i)).getD false && pathB md ops p ps
theorem path_listed {listed : Array Bool} (hc : Closed md ops listed) : ∀ (ps : List Nat) (i : Nat), pathB md ops i ps = true → listed.getD ((i :: ps).getLast (by simp)) false = true → listed.getD i false = true
  | [], i, _, h => h
  | p :: ps, i, hp, h => by
    unfold pathB at hp
    rw [Bool.and_eq_true] at hp
    have h1 := path_listed hc ps p hp.2 (by rw [List.getLast_cons (by simp)] at h; exact h)
    cases ho : ops[p]? with
    | none => rw [ho] at hp; simp at hp
    | some o =>
      rw [ho] at hp
      simp only [Option.map_some, Option.getD_some, List.any_eq_true] at hp
      obtain ⟨e, he, h2⟩ := hp.1
      rw [Bool.and_eq_true, beq_iff_eq] at h2
      rw [← h2.2]
      exact hc p o ho h1 e (Array.mem_toList_iff.1 he) h2.1
theorem wpAnyT_first {i j0 : Nat} {oi : Oper} {v : Value} (hi : ops[i]? = some oi) (hsel : ∀ (j : Nat) (o : Oper) cs b, ops[j]? = some o → o.op ≠ .select cs b)
    (hQ : ∀ c a w, Q (.panic c) (a.put oi.dst v) w → Q (.panic c) a w) (hij : i ≠ j0)
    (hS' : ∀ (listed : Array Bool) (w : World), Closed md ops listed → listed.getD i true = false → (listed.getD j0 false = false → S w) → S' w) :
    ∀ (fuel : Nat) (listed : Array Bool) (a : Act) (w : World),
      (∀ j oj, ops[j]? = some oj → j ≠ i → listed.getD j true = false → (∀ e ∈ oj.after, Region.binds md e = true → e.on ≠ i) → oi.apart ops oj = true) →
      i ∈ Region.ready md ops listed → YieldsIf P ops S' oi v a → Closed md ops listed → (listed.getD j0 false = false → S w) →
      wpAnyT P md ops Q S j0 fuel (listed.setIfInBounds i true) (a.put oi.dst v) w → wpAnyT P md ops Q S j0 (fuel + 1) listed a w := by
  intro fuel
  induction fuel with
  | zero =>
    intro listed a w _ hr hy hc hS H
    refine ⟨fun h => (by rw [h] at hr; cases hr), fun j hj => ?_⟩
    by_cases hji : j = i
    · subst hji; exact hy.wpOp hi (hS' listed w hc (mem_ready.1 hr).1 hS) ⟨fun _ h => hS h, H⟩
    · have := ready_mono hj hji
      rw [H.1] at this
      cases this
  | succ fuel ih =>
    intro listed a w hfree hr hy hc hS H
    refine ⟨fun h => (by rw [h] at hr; cases hr), fun j hj => ?_⟩
    by_cases hji : j = i
    · subst hji; exact hy.wpOp hi (hS' listed w hc (mem_ready.1 hr).1 hS) ⟨fun _ h => hS h, H⟩
    · have h1 := H.2 j (ready_mono hj hji)
      obtain ⟨hjun, oj, hoj, hall⟩ := mem_ready.1 hj
      have hnot : ∀ e ∈ oj.after, Region.binds md e = true → e.on ≠ i := fun e he hb heq => by
        have h1 := hall e he hb
        have h0 := (mem_ready.1 hr).1
        rw [heq] at h1
        rcases Nat.lt_or_ge i listed.size with h' | h'
        · simp [h'] at h0 h1; rw [h0] at h1; cases h1
        · simp [Array.getElem?_eq_none h'] at h1
      have h2 := wpOp_putIf hoj (hfree j oj hoj hji hjun hnot) (fun cs b => hsel i oi cs b hi) (fun cs b => hsel j oj cs b hoj) hQ hy h1
      have hfree' : ∀ k ok, ops[k]? = some ok → k ≠ i → (listed.setIfInBounds j true).getD k true = false →
          (∀ e ∈ ok.after, Region.binds md e = true → e.on ≠ i) → oi.apart ops ok = true := fun k ok hk hki hun hno => by
        refine hfree k ok hk hki ?_ hno
        by_cases hjk : j = k
        · subst hjk; exact hjun
        · rw [getD_set_ne true hjk] at hun; exact hun
      refine wpOp_mono (fun a' w' h3 => ?_) h2
      have hcond : (j ≠ j0 → listed.getD j0 false = false → S w') := fun hj0 hl => h3.2.1 hj0 (by rw [getD_set_ne false hij]; exact hl)
      refine ⟨hcond, ih (listed.setIfInBounds j true) a' w' hfree' (ready_mono hr (Ne.symm hji)) h3.1 (closed_set hc hj) (fun hl => ?_) ?_⟩
      · by_cases hj0 : j = j0
        · subst hj0
          have hlt := lt_of_ready hj
          simp [hlt] at hl
        · rw [getD_set_ne false hj0] at hl
          exact hcond hj0 hl
      · rw [Array.setIfInBounds_comm _ _ hji]
        exact h3.2.2
/-- Take number i first: it yields v in whatever world. -/
theorem wpAnyT_take {i j0 : Nat} {oi : Oper} {v : Value} {fuel : Nat} {listed : Array Bool} {a : Act} {w : World} (hi : ops[i]? = some oi)
    (hs : Region.noSelect ops = true) (hf : Region.free md ops listed i = true) (hr : (Region.ready md ops listed).contains i = true) (hij : (i != j0) = true) (hc : closedB md ops listed = true)
    (hQ : ∀ c a w, Q (.panic c) (a.put oi.dst v) w → Q (.panic c) a w) (hy : YieldsIf P ops (fun _ => True) oi v a) (hS : listed.getD j0 false = false → S w)
    (h : wpAnyT P md ops Q S j0 fuel (listed.setIfInBounds i true) (a.put oi.dst v) w) : wpAnyT P md ops Q S j0 (fuel + 1) listed a w :=
  wpAnyT_first (S' := fun _ => True) hi (Region.noSelect_spec hs) hQ (by simpa using hij) (fun _ _ _ _ _ => trivial) fuel listed a w (Region.free_spec hi hf) (by simpa using hr) hy (closed_of hc) hS h
/-- Take number i first: it yields v in every world that meets S, and j0 waits for it. -/
theorem wpAnyT_load {i j0 : Nat} {oi : Oper} {v : Value} {fuel : Nat} {listed : Array Bool} {a : Act} {w : World} (hi : ops[i]? = some oi)
    (hs : Region.noSelect ops = true) (hf : Region.free md ops listed i = true) (hr : (Region.ready md ops listed).contains i = true) (hij : (i != j0) = true) (hc : closedB md ops listed = true)
    (ps : List Nat) (hp : pathB md ops i ps = true) (hl : (i :: ps).getLast (by simp) = j0)
    (hQ : ∀ c a w, Q (.panic c) (a.put oi.dst v) w → Q (.panic c) a w) (hy : YieldsIf P ops S oi v a) (hS : listed.getD j0 false = false → S w)
    (h : wpAnyT P md ops Q S j0 fuel (listed.setIfInBounds i true) (a.put oi.dst v) w) : wpAnyT P md ops Q S j0 (fuel + 1) listed a w :=
  wpAnyT_first (S' := S) hi (Region.noSelect_spec hs) hQ (by simpa using hij) (fun l w hc hl0 hS => by
    apply hS
    cases hb : l.getD j0 false with
    | false => rfl
    | true =>
      have h1 := path_listed hc ps i hp (by rw [hl]; exact hb)
      exfalso
      rcases Nat.lt_or_ge i l.size with h' | h'
      · simp [h'] at h1 hl0; rw [h1] at hl0; cases hl0
      · simp [Array.getElem?_eq_none h'] at h1) fuel listed a w (Region.free_spec hi hf) (by simpa using hr) hy (closed_of hc) hS h
/-- One alone may come up. -/
theorem wpAnyT_one {i j0 : Nat} {o : Oper} {fuel : Nat} {listed : Array Bool} {a : Act} {w : World} (hr : Region.ready md ops listed = [i]) (ho : ops[i]? = some o)
    (h : ∀ K' : Act → World → Prop, Shut (∀ a w, (i ≠ j0 → listed.getD j0 false = false → S w) → wpAnyT P md ops Q S j0 fuel (listed.setIfInBounds i true) a w → K' a w) → if Region.wanted o (yielded ops a.tmps) = true then Oper.wp P o a w K' Q else K' (a.put o.dst undef) w) :
    wpAnyT P md ops Q S j0 (fuel + 1) listed a w :=
  ⟨fun h0 => (by rw [hr] at h0; cases h0), fun j hj => by
    rw [hr, List.mem_singleton] at hj
    subst hj
    exact wpOp_step ho (fun K' hK => h K' (fun a w hS hW => hK a w ⟨hS, hW⟩))⟩
theorem wpAnyT_done {j0 : Nat} {listed : Array Bool} {a : Act} {w : World} (hr : Region.ready md ops listed = []) (h : Q .normal a w) : ∀ fuel, wpAnyT P md ops Q S j0 fuel listed a w
  | 0 => ⟨hr, h⟩
  | _ + 1 => ⟨fun _ => h, by rw [hr]; simp⟩
theorem wp_region_late {id : Nat} {a : Act} {w : World} (j0 : Nat) (S : World → Prop) (hm : P.follows .mixedOrders = true)
    (h : wpAnyT P .any ops Q S j0 ops.size (Array.replicate ops.size false) a w.drew) : (Code.region id ops true).wp P Q a w :=
  wp_region_any hm (wpAny_of_late _ _ _ _ h)
end
end Go.Proofs.Ytgjmpancofjjbaa.Hlate
