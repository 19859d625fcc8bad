/- A part of the proof that parser laws hold: texts of the walk and of its plain laws, made small. -/
import Derived.Deep.RegionWith
set_option linter.unusedVariables false
set_option linter.unusedSimpArgs false
/- A region that draws its order, by one condition that each of its operations keeps: no branching over orders. -/
namespace Go.Proofs.YtnfclcfcpgfajaaGreatDoor

section
variable {P : Program} {ops : Array Oper} {Q : Exit → Act → World → Prop} {md : Region.Mode}

/-- What operation number i waits for. -/
def depsOf (md : Region.Mode) (ops : Array Oper) (i : Nat) : List Nat :=
  match ops[i]? with
  | none => []
  | some o => (o.after.toList.filter (fun e => Region.binds md e)).map (·.on)
/-- Each operation waits for earlier ones alone. -/
def depsLow (md : Region.Mode) (ops : Array Oper) : Bool := (List.range ops.size).all fun i => (depsOf md ops i).all (fun d => decide (d < i))

/-- Each operation of a list keeps I. -/
def KeepI (P : Program) (md : Region.Mode) (ops : Array Oper) (Q : Exit → Act → World → Prop) (I : (Nat → Bool) → Act → World → Prop) (i : Nat) : Prop :=
  ∀ (f : Nat → Bool) (a : Act) (w : World), f i = false → (∀ d ∈ depsOf md ops i, f d = true) → (∀ j, f j = true → ∀ d ∈ depsOf md ops j, f d = true) → I f a w → wpOp P ops Q i (fun a' w' => I (fun j => (i == j) || f j) a' w') a w

def KeepsI (P : Program) (md : Region.Mode) (ops : Array Oper) (Q : Exit → Act → World → Prop) (I : (Nat → Bool) → Act → World → Prop) (rs : List Nat) : Prop := ∀ i ∈ rs, KeepI P md ops Q I i

theorem KeepsI.nil {I : (Nat → Bool) → Act → World → Prop} : KeepsI P md ops Q I [] := fun _ h => by cases h
theorem KeepsI.cons {I : (Nat → Bool) → Act → World → Prop} {i : Nat} {rs : List Nat} {o : Oper} {ds : List Nat} (ho : ops[i]? = some o) (hd : (ds.all fun d => (depsOf md ops i).contains d) = true)
    (h : ∀ (f : Nat → Bool) (a : Act) (w : World), f i = false → (∀ d ∈ ds, f d = true) → (∀ j d, (depsOf md ops j).contains d = true → f j = true → f d = true) → I f a w → ∀ K' : Act → World → Prop, (∀ a w, I (fun j => (i == j) || f j) a w → K' a w) → if Region.wanted o (yielded ops a.tmps) = true then Oper.wp P o a w K' Q else K' (a.put o.dst undef) w)
    (hs : KeepsI P md ops Q I rs) : KeepsI P md ops Q I (i :: rs) := fun j hj => by
  rcases List.mem_cons.1 hj with rfl | hj
  · intro f a w h0 h1 hc h2
    exact wpOp_step ho (h f a w h0 (fun d hd' => h1 d (by simpa using (List.all_eq_true.1 hd) d hd')) (fun j d hj hf => hc j hf d (by simpa using hj)) h2)
  · exact hs j hj

def unl (listed : Array Bool) : Nat := (listed.toList.filter (fun b => !b)).length

theorem unl_list : ∀ (l : List Bool) (i : Nat), l[i]? = some false → ((l.set i true).filter (fun b => !b)).length + 1 = (l.filter (fun b => !b)).length
  | [], i, h => by simp at h
  | b :: r, 0, h => by simp at h; subst h; simp
  | b :: r, i + 1, h => by
    have := unl_list r i (by simpa using h)
    cases b <;> simp <;> omega

theorem unl_zero (listed : Array Bool) (h : unl listed = 0) (i : Nat) (hi : i < listed.size) : listed.getD i false = true := by
  have h1 : listed.toList.filter (fun b => !b) = [] := List.length_eq_zero_iff.1 h
  rw [List.filter_eq_nil_iff] at h1
  have h2 := h1 (listed.toList[i]'(by simpa using hi)) (List.getElem_mem _)
  simp at h2
  simp [hi, h2]

theorem wpAny_inv (I : (Nat → Bool) → Act → World → Prop) (hlow : depsLow md ops = true)
    (step : ∀ i, i < ops.size → KeepI P md ops Q I i)
    (done : ∀ (f : Nat → Bool) (a : Act) (w : World), (∀ i, i < ops.size → f i = true) → I f a w → Q .normal a w) :
    ∀ (fuel : Nat) (listed : Array Bool) (a : Act) (w : World), listed.size = ops.size → unl listed ≤ fuel → (∀ j, listed.getD j false = true → ∀ d ∈ depsOf md ops j, listed.getD d false = true) → I (fun i => listed.getD i false) a w → wpAny P md ops Q fuel listed a w := by
  have hall : ∀ (listed : Array Bool), listed.size = ops.size → Region.ready md ops listed = [] → ∀ i, i < ops.size → listed.getD i false = true := by
    intro listed hs hr i
    induction i using Nat.strongRecOn with
    | _ i ih =>
    intro hi
    cases hb : listed.getD i false with
    | true => rfl
    | false =>
      exfalso
      have : i ∈ Region.ready md ops listed := by
        rw [mem_ready]
        refine ⟨?_, ops[i], by simp [hi], ?_⟩
        · have hi' : i < listed.size := by omega
          simp [hi'] at hb ⊢
          exact hb
        · intro e he hbd
          have hl : e.on < i := by
            unfold depsLow at hlow
            rw [List.all_eq_true] at hlow
            have h1 := hlow i (by simp [hi])
            rw [List.all_eq_true] at h1
            have h2 := h1 e.on (by
              unfold depsOf
              simp only [Array.getElem?_eq_getElem hi]
              exact List.mem_map.2 ⟨e, List.mem_filter.2 ⟨by simpa using he, hbd⟩, rfl⟩)
            simpa using h2
          exact ih e.on hl (by omega)
      rw [hr] at this
      cases this
  have heq : ∀ (listed : Array Bool) (i : Nat), i < listed.size → (fun j => (i == j) || listed.getD j false) = (fun j => (listed.setIfInBounds i true).getD j false) := by
    intro listed i hi
    funext j
    by_cases hij : i = j
    · subst hij; simp [hi]
    · rw [getD_set_ne false hij]
      have : (i == j) = false := by simpa using hij
      rw [this]
      rfl
  intro fuel
  induction fuel with
  | zero =>
    intro listed a w hs hu hcl hI
    have ha := unl_zero listed (by omega)
    refine ⟨?_, done _ a w (fun i hi => ha i (by omega)) hI⟩
    apply List.eq_nil_iff_forall_not_mem.2
    intro i hi
    have h1 := (mem_ready.1 hi).1
    obtain ⟨o, ho, _⟩ := (mem_ready.1 hi).2
    have hlt : i < listed.size := by rw [hs]; exact (Array.getElem?_eq_some_iff.1 ho).1
    have h2 := ha i hlt
    simp [hlt] at h1 h2
    rw [h1] at h2
    cases h2
  | succ fuel ih =>
    intro listed a w hs hu hcl hI
    refine ⟨fun hr => done _ a w (hall listed hs hr) hI, fun i hi => ?_⟩
    obtain ⟨h1, o, ho, hdep⟩ := mem_ready.1 hi
    have hlt : i < ops.size := (Array.getElem?_eq_some_iff.1 ho).1
    have hlt' : i < listed.size := by omega
    have hf : listed.getD i false = false := by simp [hlt'] at h1 ⊢; exact h1
    have hmy : ∀ d ∈ depsOf md ops i, listed.getD d false = true := by
      intro d hd
      unfold depsOf at hd
      rw [ho] at hd
      obtain ⟨e, he, rfl⟩ := List.mem_map.1 hd
      obtain ⟨he1, he2⟩ := List.mem_filter.1 he
      exact hdep e (by simpa using he1) he2
    refine wpOp_mono (fun a' w' h' => ih _ a' w' (by simp [hs]) ?_ ?_ ?_) (step i hlt (fun j => listed.getD j false) a w hf ?_ hcl hI)
    · have hg : listed.toList[i]? = some false := by
        simp [hlt'] at hf
        simp [hlt', hf]
      have := unl_list listed.toList i hg
      unfold unl at hu ⊢
      rw [Array.toList_setIfInBounds]
      omega
    · intro j hj d hd
      by_cases hij : i = j
      · subst hij
        exact getD_set_true (hmy d hd)
      · rw [getD_set_ne false hij] at hj
        exact getD_set_true (hcl j hj d hd)
    · rw [← heq listed i hlt']; exact h'
    · exact hmy

theorem unl_rep (n : Nat) : unl (Array.replicate n false) = n := by
  unfold unl
  simp

theorem wp_region_inv (I : (Nat → Bool) → Act → World → Prop) {id : Nat} {a : Act} {w : World} {rs : List Nat} (hm : P.follows .mixedOrders = true) (hlow : depsLow .any ops = true) (hrs : List.range ops.size = rs)
    (start : I (fun _ => false) a w.drew)
    (steps : KeepsI P .any ops Q I rs)
    (done : ∀ (f : Nat → Bool) (a : Act) (w : World), (∀ i ∈ rs, f i = true) → I f a w → Q .normal a w) : (Code.region id ops true).wp P Q a w := by
  have hz : ∀ j, (Array.replicate ops.size false).getD j false = false := fun j => by by_cases h : j < ops.size <;> simp [h]
  refine wp_region_any hm ?_
  refine wpAny_inv I hlow (fun i hi => steps i (by rw [← hrs]; exact List.mem_range.2 hi)) (fun f a w hf hI => done f a w (fun i hi => hf i (by rw [← hrs] at hi; exact List.mem_range.1 hi)) hI) _ _ _ _ (by simp) (by rw [unl_rep]; exact Nat.le_refl _) (fun j hj => by rw [hz] at hj; cases hj) ?_
  have : (fun i => (Array.replicate ops.size false).getD i false) = (fun _ => false) := by
    funext i
    by_cases h : i < ops.size <;> simp [h]
  rw [this]
  exact start

end
end Go.Proofs.YtnfclcfcpgfajaaGreatDoor

/- The unknown slots of a region as one function: what those hold that were stepped. -/
namespace Go.Proofs.YtnfclcfcpgfajaaGreatDoor

def upd (x : Nat → Value) (i : Nat) (v : Value) : Nat → Value := fun j => bif Nat.beq j i then v else x j
def Vals (vals : List Value) (f : Nat → Bool) (x : Nat → Value) : Prop := ∀ i v, vals[i]? = some v → f i = true → x i = v
theorem Vals.nil (vals : List Value) (x : Nat → Value) : Vals vals (fun _ => false) x := fun _ _ _ h => by cases h
theorem Vals.get {vals : List Value} {f : Nat → Bool} {x : Nat → Value} (h : Vals vals f x) (i : Nat) {v : Value} (hv : vals[i]? = some v) (hf : f i = true) : x i = v := h i v hv hf
theorem Vals.put {vals : List Value} {f : Nat → Bool} {x : Nat → Value} (h : Vals vals f x) (i : Nat) {v : Value} (hv : vals[i]? = some v) : Vals vals f (upd x i v) := fun j u hu hf => by
  unfold upd
  by_cases e : j = i
  · subst e
    rw [hv] at hu
    simp at hu ⊢
    exact hu
  · have : Nat.beq j i = false := by cases h : Nat.beq j i with
      | false => rfl
      | true => exact absurd (Nat.eq_of_beq_eq_true h) e
    rw [this]
    exact h j u hu hf
theorem Vals.set {vals : List Value} {f : Nat → Bool} {x : Nat → Value} (h : Vals vals f x) (i : Nat) {v : Value} (hv : vals[i]? = some v) : Vals vals (fun j => (i == j) || f j) (upd x i v) := fun j u hu hf => by
  unfold upd
  by_cases e : j = i
  · subst e
    rw [hv] at hu
    simp at hu ⊢
    exact hu
  · have : Nat.beq j i = false := by cases h : Nat.beq j i with
      | false => rfl
      | true => exact absurd (Nat.eq_of_beq_eq_true h) e
    rw [this]
    have e2 : (i == j) = false := by rw [beq_eq_false_iff_ne]; exact fun h => e h.symm
    have hf' : ((i == j) || f j) = true := hf
    rw [e2] at hf'
    exact h j u hu hf'
end Go.Proofs.YtnfclcfcpgfajaaGreatDoor

/- The written slots of a region as one function: what those hold that were stepped, where that is fixed. -/
namespace Go.Proofs.YtnfclcfcpgfajaaGreatDoor

def VO (vals : List (Option Value)) (f : Nat → Bool) (x : Nat → Value) : Prop := ∀ i v, vals[i]? = some (some v) → f i = true → x i = v
theorem VO.nil (vals : List (Option Value)) (x : Nat → Value) : VO vals (fun _ => false) x := fun _ _ _ h => by cases h
theorem VO.get {vals : List (Option Value)} {f : Nat → Bool} {x : Nat → Value} (h : VO vals f x) (i : Nat) {v : Value} (hv : vals[i]? = some (some v)) (hf : f i = true) : x i = v := h i v hv hf
theorem upd_same (x : Nat → Value) (i : Nat) (v : Value) : upd x i v i = v := by
  unfold upd
  have : Nat.beq i i = true := Nat.beq_refl i
  rw [this]; rfl
theorem upd_ne (x : Nat → Value) {i j : Nat} (v : Value) (h : j ≠ i) : upd x i v j = x j := by
  unfold upd
  have : Nat.beq j i = false := by cases hb : Nat.beq j i with
    | false => rfl
    | true => exact absurd (Nat.eq_of_beq_eq_true hb) h
  rw [this]; rfl
theorem VO.put {vals : List (Option Value)} {f : Nat → Bool} {x : Nat → Value} (h : VO vals f x) (i : Nat) {v : Value} (hv : vals[i]? = some (some v)) : VO vals f (upd x i v) := fun j u hu hf => by
  by_cases e : j = i
  · subst e
    rw [hv] at hu
    rw [upd_same]
    simpa using hu
  · rw [upd_ne x v e]; exact h j u hu hf
theorem VO.set {vals : List (Option Value)} {f : Nat → Bool} {x : Nat → Value} (h : VO vals f x) (i : Nat) {v : Value} (hv : vals[i]? = some (some v)) : VO vals (fun j => (i == j) || f j) (upd x i v) := fun j u hu hf => by
  by_cases e : j = i
  · subst e
    rw [hv] at hu
    rw [upd_same]
    simpa using hu
  · rw [upd_ne x v e]
    have e2 : (i == j) = false := by rw [beq_eq_false_iff_ne]; exact fun h => e h.symm
    have hf' : ((i == j) || f j) = true := hf
    rw [e2] at hf'
    exact h j u hu hf'
/-- An operation whose value is not fixed. -/
theorem VO.free {vals : List (Option Value)} {f : Nat → Bool} {x : Nat → Value} (h : VO vals f x) (i : Nat) (hv : vals[i]? = some none) (v : Value) : VO vals (fun j => (i == j) || f j) (upd x i v) := fun j u hu hf => by
  by_cases e : j = i
  · subst e
    rw [hv] at hu
    simp at hu
  · rw [upd_ne x v e]
    have e2 : (i == j) = false := by rw [beq_eq_false_iff_ne]; exact fun h => e h.symm
    have hf' : ((i == j) || f j) = true := hf
    rw [e2] at hf'
    exact h j u hu hf'
theorem VO.keep {vals : List (Option Value)} {f : Nat → Bool} {x : Nat → Value} (h : VO vals f x) (i : Nat) (hv : vals[i]? = some none) (v : Value) : VO vals f (upd x i v) := fun j u hu hf => by
  by_cases e : j = i
  · subst e
    rw [hv] at hu
    simp at hu
  · rw [upd_ne x v e]; exact h j u hu hf
/-- An operation that tells nothing. -/
theorem VO.done {vals : List (Option Value)} {f : Nat → Bool} {x : Nat → Value} (h : VO vals f x) (i : Nat) (hv : vals[i]? = some none) : VO vals (fun j => (i == j) || f j) x := fun j u hu hf => by
  by_cases e : j = i
  · subst e
    rw [hv] at hu
    simp at hu
  · have e2 : (i == j) = false := by rw [beq_eq_false_iff_ne]; exact fun h => e h.symm
    have hf' : ((i == j) || f j) = true := hf
    rw [e2] at hf'
    exact h j u hu hf'
end Go.Proofs.YtnfclcfcpgfajaaGreatDoor
