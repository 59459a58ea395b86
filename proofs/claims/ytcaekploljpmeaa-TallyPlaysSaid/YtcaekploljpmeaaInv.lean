/- A region that draws its order, by an invariant: each operation is met once, with what those that it waits for have left. -/
import Derived.Orders
import Derived.WalkKit
namespace Go.Proofs.Ytcaekploljpmeaa

/-- Every edge that binds in any order leads back. -/
def fwd (ops : Array Oper) : Bool := (List.range ops.size).all fun i => ((ops[i]?).map fun o => o.after.all fun e => !Region.binds .any e || decide (e.on < i)).getD true

theorem fwd_spec {ops : Array Oper} (h : fwd ops = true) {i : Nat} {o : Oper} (ho : ops[i]? = some o) {e : Edge} (he : e ∈ o.after) (hb : Region.binds .any e = true) : e.on < i := by
  unfold fwd at h
  rw [List.all_eq_true] at h
  have hi : i < ops.size := (Array.getElem?_eq_some_iff.1 ho).1
  have h1 := h i (List.mem_range.2 hi)
  simp only [ho, Option.map_some, Option.getD_some] at h1
  rw [Array.all_eq_true_iff_forall_mem] at h1
  have h2 := h1 e he
  simpa [hb] using h2

theorem all_listed {ops : Array Oper} (hf : fwd ops = true) {listed : Array Bool} (hs : listed.size = ops.size) (hr : Region.ready .any ops listed = []) : ∀ i, i < ops.size → listed.getD i false = true := by
  intro i
  induction i using Nat.strongRecOn with
  | _ i ih =>
    intro hi
    cases hL : listed.getD i false with
    | true => rfl
    | false =>
      exfalso
      have hm : i ∈ Region.ready .any ops listed := by
        rw [mem_ready]
        refine ⟨?_, ops[i], by simp [hi], ?_⟩
        · have : i < listed.size := by omega
          simp [this] at hL ⊢
          exact hL
        · intro e he hb
          have := fwd_spec hf (i := i) (o := ops[i]) (by simp [hi]) he hb
          exact ih e.on this (by omega)
      rw [hr] at hm
      cases hm

def left (listed : Array Bool) : Nat := (listed.toList.filter (fun b => !b)).length
theorem left_set {listed : Array Bool} {i : Nat} (hi : i < listed.size) (h : listed.getD i false = false) : left (listed.setIfInBounds i true) + 1 = left listed := by
  unfold left
  have h1 : listed.toList[i]? = some false := by
    have : listed[i] = false := by simpa [hi] using h
    simp [hi, this]
  have h2 : listed.toList = listed.toList.take i ++ false :: listed.toList.drop (i + 1) := by
    rw [List.getElem?_eq_some_iff] at h1
    obtain ⟨h3, h4⟩ := h1
    rw [← h4, ← List.drop_eq_getElem_cons h3, List.take_append_drop]
  have h3 : (listed.setIfInBounds i true).toList = listed.toList.take i ++ true :: listed.toList.drop (i + 1) := by
    rw [Array.toList_setIfInBounds, List.set_eq_take_append_cons_drop]
    simp [hi]
  rw [h3]
  conv => rhs; rw [h2]
  simp [List.filter_append]
  omega
theorem left_zero {listed : Array Bool} (h : left listed = 0) : ∀ i, i < listed.size → listed.getD i false = true := by
  intro i hi
  unfold left at h
  have h1 := List.length_eq_zero_iff.1 h
  rw [List.filter_eq_nil_iff] at h1
  have := h1 (listed[i]) (by simp)
  simpa [hi] using this

theorem wpAny_inv {P : Program} {ops : Array Oper} {Q : Exit → Act → World → Prop} (hf : fwd ops = true) (J : (Nat → Bool) → Act → World → Prop)
    (hstep : ∀ (L : Nat → Bool) a w i o, ops[i]? = some o → L i = false → (∀ e ∈ o.after, Region.binds .any e = true → L e.on = true) → J L a w → wpOp P ops Q i (J (fun j => L j || j == i)) a w)
    (hfin : ∀ (L : Nat → Bool) a w, (∀ i, i < ops.size → L i = true) → J L a w → Q .normal a w) :
    ∀ (fuel : Nat) (listed : Array Bool) (a : Act) (w : World), listed.size = ops.size → left listed = fuel → J (fun i => listed.getD i false) a w → wpAny P .any ops Q fuel listed a w := by
  intro fuel
  induction fuel with
  | zero =>
    intro listed a w hs hl hJ
    have hall := left_zero hl
    refine ⟨?_, hfin _ a w (fun i hi => hall i (by omega)) hJ⟩
    apply List.eq_nil_iff_forall_not_mem.2
    intro i hi
    rw [mem_ready] at hi
    obtain ⟨h1, o, ho, _⟩ := hi
    have hlt : i < ops.size := (Array.getElem?_eq_some_iff.1 ho).1
    have := hall i (by omega)
    have hlt' : i < listed.size := by omega
    simp [hlt'] at h1 this
    rw [h1] at this
    cases this
  | succ fuel ih =>
    intro listed a w hs hl hJ
    refine ⟨fun hr => hfin _ a w (all_listed hf hs hr) hJ, fun i hi => ?_⟩
    rw [mem_ready] at hi
    obtain ⟨h1, o, ho, h2⟩ := hi
    have hlt : i < ops.size := (Array.getElem?_eq_some_iff.1 ho).1
    have hlt' : i < listed.size := by omega
    have hLi : listed.getD i false = false := by simpa [hlt'] using h1
    refine wpOp_mono ?_ (hstep _ a w i o ho hLi h2 hJ)
    intro a' w' hJ'
    refine ih _ a' w' (by simp [hs]) (by have := left_set hlt' hLi; omega) ?_
    have : (fun j => (listed.setIfInBounds i true).getD j false) = (fun j => listed.getD j false || j == i) := by
      funext j
      simp only [Array.getD_eq_getD_getElem?, Array.getElem?_setIfInBounds]
      by_cases hj : i = j
      · subst hj; simp [hlt']
      · simp [hj, Ne.symm hj]
    rw [this]
    exact hJ'

/-- A REGION THAT DRAWS ITS ORDER, BY AN INVARIANT. -/
theorem wp_region_inv {P : Program} {ops : Array Oper} {Q : Exit → Act → World → Prop} {id : Nat} {a : Act} {w : World} (hm : P.follows .mixedOrders = true) (hf : fwd ops = true) (J : (Nat → Bool) → Act → World → Prop)
    (h0 : J (fun _ => false) a w.drew)
    (hstep : ∀ (L : Nat → Bool) a w i o, ops[i]? = some o → L i = false → (∀ e ∈ o.after, Region.binds .any e = true → L e.on = true) → J L a w → wpOp P ops Q i (J (fun j => L j || j == i)) a w)
    (hfin : ∀ (L : Nat → Bool) a w, (∀ i, i < ops.size → L i = true) → J L a w → Q .normal a w) : (Code.region id ops true).wp P Q a w := by
  refine wp_region_any hm (wpAny_inv hf J hstep hfin _ _ a _ (by simp) ?_ ?_)
  · unfold left; simp
  · have : (fun i => (Array.replicate ops.size false).getD i false) = fun _ => false := by
      funext i
      simp only [Array.getD_eq_getD_getElem?, Array.getElem?_replicate]
      split <;> rfl
    rw [this]
    exact h0

/-! ### The same with the slots kept by name -/
def dstOf (ops : Array Oper) (i : Nat) : Option Tmp := (ops[i]?).bind (·.dst)
/-- No slot is written twice. -/
def once (ops : Array Oper) : Bool := (List.range ops.size).all fun i => (List.range ops.size).all fun j => i == j || (dstOf ops i).isNone || dstOf ops i != dstOf ops j
/-- What an operation waits for. -/
def deps (o : Oper) : List Nat := (o.after.toList.filter (Region.binds .any ·)).map (·.on)

theorem once_spec {ops : Array Oper} (h : once ops = true) {i j : Nat} (hij : i ≠ j) {d : Tmp} (hi : dstOf ops i = some d) : dstOf ops j ≠ some d := by
  intro hj
  have li : i < ops.size := by
    unfold dstOf at hi
    cases h0 : ops[i]? with
    | none => simp [h0] at hi
    | some o => exact (Array.getElem?_eq_some_iff.1 h0).1
  have lj : j < ops.size := by
    unfold dstOf at hj
    cases h0 : ops[j]? with
    | none => simp [h0] at hj
    | some o => exact (Array.getElem?_eq_some_iff.1 h0).1
  unfold once at h
  rw [List.all_eq_true] at h
  have h1 := h i (List.mem_range.2 li)
  rw [List.all_eq_true] at h1
  have h2 := h1 j (List.mem_range.2 lj)
  simp [hij, hi, hj] at h2

structure VJ (ops : Array Oper) (a0 : Act) (V : Nat → Value → Prop) (I : (Nat → Bool) → (Nat → Value) → World → Prop) (L : Nat → Bool) (σ : Nat → Value) (a : Act) (w : World) : Prop where
  inv : I L σ w
  inb : ∀ i, L i = true → i < ops.size
  dfr : a.defers = a0.defers
  size : a.tmps.size = a0.tmps.size
  frame : ∀ t, (∀ i, L i = true → dstOf ops i ≠ some t) → a.tmps[t]? = a0.tmps[t]?
  slot : ∀ i d, L i = true → dstOf ops i = some d → a.tmps[d]? = some (σ i)
  val : ∀ i, L i = true → V i (σ i)
  closed : ∀ i o, ops[i]? = some o → L i = true → ∀ e ∈ o.after, Region.binds .any e = true → L e.on = true

/-- One operation's part: with all that it waits for done, it hands on a value that fits, and what holds. -/
def stepOK (P : Program) (ops : Array Oper) (Q : Exit → Act → World → Prop) (a0 : Act) (V : Nat → Value → Prop) (I : (Nat → Bool) → (Nat → Value) → World → Prop) (i : Nat) (o : Oper) : Prop :=
  ∀ (L : Nat → Bool) (σ : Nat → Value) (a : Act) (w : World), VJ ops a0 V I L σ a w → L i = false → (∀ j ∈ deps o, L j = true) →
    if Region.wanted o (yielded ops a.tmps) then o.wp P a w (fun a' w' => ∃ v, a' = a.put o.dst v ∧ V i v ∧ I (fun j => L j || j == i) (fun j => if j = i then v else σ j) w') Q
    else V i undef ∧ I (fun j => L j || j == i) (fun j => if j = i then undef else σ j) w

def stepsOK (P : Program) (ops : Array Oper) (Q : Exit → Act → World → Prop) (a0 : Act) (V : Nat → Value → Prop) (I : (Nat → Bool) → (Nat → Value) → World → Prop) : Nat → List Oper → Prop
  | _, [] => True
  | i, o :: r => stepOK P ops Q a0 V I i o ∧ stepsOK P ops Q a0 V I (i + 1) r

theorem stepsOK_at {P : Program} {ops : Array Oper} {Q : Exit → Act → World → Prop} {a0 : Act} {V : Nat → Value → Prop} {I : (Nat → Bool) → (Nat → Value) → World → Prop} :
    ∀ (l : List Oper) (k : Nat), stepsOK P ops Q a0 V I k l → ∀ j o, l[j]? = some o → stepOK P ops Q a0 V I (k + j) o := by
  intro l
  induction l with
  | nil => intro k _ j o h; simp at h
  | cons x l ih =>
    intro k h j o ho
    cases j with
    | zero => simp at ho; subst ho; exact h.1
    | succ j => have := ih (k + 1) h.2 j o (by simpa using ho); rwa [show k + 1 + j = k + (j + 1) by omega] at this

theorem put_dfr (a : Act) (d : Option Tmp) (v : Value) : (a.put d v).defers = a.defers := by cases d <;> rfl
theorem put_size (a : Act) (d : Option Tmp) (v : Value) : (a.put d v).tmps.size = a.tmps.size := by cases d <;> simp [Act.put]
theorem put_ne (a : Act) (d : Option Tmp) (v : Value) (t : Tmp) (h : d ≠ some t) : (a.put d v).tmps[t]? = a.tmps[t]? := by
  cases d with
  | none => rfl
  | some d =>
    have : d ≠ t := fun e => h (by rw [e])
    simp [Act.put, this]
theorem put_eq (a : Act) (d : Tmp) (v : Value) (h : d < a.tmps.size) : (a.put (some d) v).tmps[d]? = some v := by simp [Act.put, h]

theorem VJ.step {ops : Array Oper} {a0 : Act} {V : Nat → Value → Prop} {I : (Nat → Bool) → (Nat → Value) → World → Prop} {L : Nat → Bool} {σ : Nat → Value} {a : Act} {w w' : World} {i : Nat} {o : Oper} {v : Value}
    (h : VJ ops a0 V I L σ a w) (hon : once ops = true) (hb : ∀ d, dstOf ops i = some d → d < a0.tmps.size) (ho : ops[i]? = some o) (hL : L i = false) (hd : ∀ e ∈ o.after, Region.binds .any e = true → L e.on = true)
    (hv : V i v) (hI : I (fun j => L j || j == i) (fun j => if j = i then v else σ j) w') :
    VJ ops a0 V I (fun j => L j || j == i) (fun j => if j = i then v else σ j) (a.put o.dst v) w' := by
  have hdst : dstOf ops i = o.dst := by simp [dstOf, ho]
  refine ⟨hI, ?_, ?_, ?_, ?_, ?_, ?_, ?_⟩
  · intro j hj
    rcases Bool.or_eq_true_iff.1 hj with hj | hj
    · exact h.inb j hj
    · have : j = i := by simpa using hj
      subst this
      exact (Array.getElem?_eq_some_iff.1 ho).1
  · rw [put_dfr, h.dfr]
  · rw [put_size, h.size]
  · intro t ht
    rw [put_ne _ _ _ _ (by rw [← hdst]; exact ht i (by simp))]
    exact h.frame t fun j hj => ht j (by simp [hj])
  · intro j d hj hjd
    by_cases hji : j = i
    · subst hji
      rw [hdst] at hjd
      rw [hjd, put_eq _ _ _ (by rw [h.size]; exact hb d (by rw [hdst, hjd]))]
      simp
    · have hj' : L j = true := by simpa [hji] using hj
      rw [put_ne _ _ _ _ (by rw [← hdst]; exact once_spec hon hji hjd), h.slot j d hj' hjd]
      simp [hji]
  · intro j hj
    by_cases hji : j = i
    · subst hji; simpa using hv
    · have hj' : L j = true := by simpa [hji] using hj
      simpa [hji] using h.val j hj'
  · intro j oj hoj hj e he hbe
    by_cases hji : j = i
    · subst hji
      rw [ho] at hoj; cases hoj
      simp [hd e he hbe]
    · have hj' : L j = true := by simpa [hji] using hj
      simp [h.closed j oj hoj hj' e he hbe]

theorem puts_facts {ops : Array Oper} {a : Act} {σ : Nat → Value} (hon : once ops = true) (hb : ∀ i d, dstOf ops i = some d → d < a.tmps.size) : ∀ n,
    let G := (List.range n).foldl (fun b i => b.put (dstOf ops i) (σ i)) a
    G.defers = a.defers ∧ G.tmps.size = a.tmps.size ∧ (∀ t, (∀ i, i < n → dstOf ops i ≠ some t) → G.tmps[t]? = a.tmps[t]?) ∧ ∀ i d, i < n → dstOf ops i = some d → G.tmps[d]? = some (σ i) := by
  intro n
  induction n with
  | zero => exact ⟨rfl, rfl, fun _ _ => rfl, fun i d h => absurd h (by omega)⟩
  | succ n ih =>
    obtain ⟨h1, h2, h3, h4⟩ := ih
    simp only [List.range_succ, List.foldl_append, List.foldl_cons, List.foldl_nil]
    refine ⟨by rw [put_dfr, h1], by rw [put_size, h2], ?_, ?_⟩
    · intro t ht
      rw [put_ne _ _ _ _ (ht n (by omega))]
      exact h3 t fun i hi => ht i (by omega)
    · intro i d hi hd
      by_cases hin : i = n
      · subst hin
        rw [hd, put_eq _ _ _ (by rw [h2]; exact hb _ d hd)]
      · rw [put_ne _ _ _ _ (once_spec hon hin hd)]
        exact h4 i d (by omega) hd

/-- A REGION THAT DRAWS ITS ORDER: each operation once; what comes out, by the slots. -/
theorem wp_region_vals {P : Program} {l : List Oper} {Q : Exit → Act → World → Prop} {id : Nat} {a : Act} {w : World} (hm : P.follows .mixedOrders = true) (hf : fwd l.toArray = true) (ho : once l.toArray = true)
    (hb : (List.range l.length).all (fun i => ((dstOf l.toArray i).map fun d => decide (d < a.tmps.size)).getD true) = true)
    (V : Nat → Value → Prop) (I : (Nat → Bool) → (Nat → Value) → World → Prop) (h0 : I (fun _ => false) (fun _ => undef) w.drew)
    (hsteps : stepsOK P l.toArray Q a V I 0 l)
    (hfin : ∀ (σ : Nat → Value) w', (∀ i, i < l.length → V i (σ i)) → I (fun i => decide (i < l.length)) σ w' → Q .normal ((List.range l.length).foldl (fun b i => b.put (dstOf l.toArray i) (σ i)) a) w') :
    (Code.region id l.toArray true).wp P Q a w := by
  have hb' : ∀ i d, dstOf l.toArray i = some d → d < a.tmps.size := by
    intro i d hd
    have li : i < l.length := by
      unfold dstOf at hd
      cases h0 : l.toArray[i]? with
      | none => simp [h0] at hd
      | some o => have := (Array.getElem?_eq_some_iff.1 h0).1; simpa using this
    rw [List.all_eq_true] at hb
    have := hb i (List.mem_range.2 li)
    simpa [hd] using this
  refine wp_region_inv hm hf (fun L a' w' => ∃ σ, VJ l.toArray a V I L σ a' w') ⟨fun _ => undef, ⟨h0, (fun i h => nomatch h), rfl, rfl, fun _ _ => rfl, (fun i d h => nomatch h), (fun i h => nomatch h), (fun i o _ h => nomatch h)⟩⟩ ?_ ?_
  · rintro L a' w' i o hoi hL hd ⟨σ, hJ⟩
    have hst := stepsOK_at l 0 hsteps i o (by simpa using hoi)
    rw [Nat.zero_add] at hst
    have h1 := hst L σ a' w' hJ hL (fun j hj => by
      simp only [deps, List.mem_map, List.mem_filter, Array.mem_toList_iff] at hj
      obtain ⟨e, ⟨he, hbe⟩, rfl⟩ := hj
      exact hd e he hbe)
    unfold wpOp
    simp only [hoi]
    split
    · rename_i hw
      rw [if_pos hw] at h1
      refine .inl (Oper.wp_mono ?_ h1)
      rintro a'' w'' ⟨v, rfl, hv, hI⟩
      exact ⟨_, hJ.step ho (fun d hd' => hb' i d hd') hoi hL hd hv hI⟩
    · rename_i hw
      rw [if_neg hw] at h1
      exact ⟨_, hJ.step ho (fun d hd' => hb' i d hd') hoi hL hd h1.1 h1.2⟩
  · rintro L a' w' hall ⟨σ, hJ⟩
    have hLeq : L = fun i => decide (i < l.length) := by
      funext i
      by_cases hi : i < l.length
      · rw [hall i (by simpa using hi)]; simp [hi]
      · cases hLi : L i with
        | false => simp [hi]
        | true => have := hJ.inb i hLi; simp at this; omega
    have hI := hJ.inv
    rw [hLeq] at hI
    have hfin' := hfin σ w' (fun i hi => hJ.val i (hall i (by simpa using hi))) hI
    obtain ⟨g1, g2, g3, g4⟩ := puts_facts (ops := l.toArray) (a := a) (σ := σ) ho hb' l.length
    have he : a' = (List.range l.length).foldl (fun b i => b.put (dstOf l.toArray i) (σ i)) a := by
      have ht : a'.tmps = ((List.range l.length).foldl (fun b i => b.put (dstOf l.toArray i) (σ i)) a).tmps := by
        apply Array.ext_getElem?
        intro t
        by_cases hx : ∃ i, i < l.length ∧ dstOf l.toArray i = some t
        · obtain ⟨i, hi, hit⟩ := hx
          rw [g4 i t hi hit, hJ.slot i t (hall i (by simpa using hi)) hit]
        · rw [g3 t fun i hi hit => hx ⟨i, hi, hit⟩, hJ.frame t fun i hLi hit => hx ⟨i, by have := hJ.inb i hLi; simpa using this, hit⟩]
      have hd : a'.defers = ((List.range l.length).foldl (fun b i => b.put (dstOf l.toArray i) (σ i)) a).defers := by rw [hJ.dfr, g1]
      cases a'
      cases hG : (List.range l.length).foldl (fun b i => b.put (dstOf l.toArray i) (σ i)) a
      rw [hG] at ht hd
      simp only at ht hd
      rw [ht, hd]
    rw [he]
    exact hfin'

/-- The slots behind all operations. -/
def putsL : List Oper → Nat → (Nat → Value) → List Value → List Value
  | [], _, _, ts => ts
  | o :: r, k, σ, ts => putsL r (k + 1) σ (match o.dst with | some d => ts.set d (σ k) | none => ts)
theorem putsL_eq (σ : Nat → Value) (df : List Deferred) : ∀ (r pre : List Oper) (ts : List Value),
    ((List.range' pre.length r.length).foldl (fun b i => b.put (dstOf (pre ++ r).toArray i) (σ i)) (⟨ts.toArray, df⟩ : Act)) = ⟨(putsL r pre.length σ ts).toArray, df⟩ := by
  intro r
  induction r with
  | nil => intro pre ts; rfl
  | cons o r ih =>
    intro pre ts
    have hd : dstOf (pre ++ o :: r).toArray pre.length = o.dst := by simp [dstOf]
    rw [List.length_cons, List.range'_succ, List.foldl_cons, hd]
    have := ih (pre ++ [o]) (match o.dst with | some d => ts.set d (σ pre.length) | none => ts)
    rw [List.length_append, List.length_singleton] at this
    simp only [List.append_assoc, List.singleton_append] at this
    rw [putsL, ← this]
    congr 1
    cases o.dst <;> simp [Act.put]
theorem wp_region_lits {P : Program} {l : List Oper} {Q : Exit → Act → World → Prop} {id : Nat} {ts : List Value} {df : List Deferred} {w : World} (hm : P.follows .mixedOrders = true) (hf : fwd l.toArray = true) (ho : once l.toArray = true)
    (hb : (List.range l.length).all (fun i => ((dstOf l.toArray i).map fun d => decide (d < ts.length)).getD true) = true)
    (V : Nat → Value → Prop) (I : (Nat → Bool) → (Nat → Value) → World → Prop) (h0 : I (fun _ => false) (fun _ => undef) w.drew)
    (hsteps : stepsOK P l.toArray Q ⟨ts.toArray, df⟩ V I 0 l)
    (hfin : ∀ (σ : Nat → Value) w', (∀ i, i < l.length → V i (σ i)) → I (fun i => decide (i < l.length)) σ w' → Q .normal ⟨(putsL l 0 σ ts).toArray, df⟩ w') :
    (Code.region id l.toArray true).wp P Q ⟨ts.toArray, df⟩ w := by
  refine wp_region_vals hm hf ho (by simpa using hb) V I h0 hsteps fun σ w' hv hI => ?_
  have h := putsL_eq σ df l [] ts
  simp only [List.nil_append, List.length_nil, ← List.range_eq_range'] at h
  rw [h]
  exact hfin σ w' hv hI

/-! ### Meeting one operation -/
section
variable {P : Program} {ops : Array Oper} {Q : Exit → Act → World → Prop} {a0 : Act} {V : Nat → Value → Prop} {I : (Nat → Bool) → (Nat → Value) → World → Prop} {i : Nat} {o : Oper}
theorem VJ.get {L : Nat → Bool} {σ : Nat → Value} {a : Act} {w : World} (h : VJ ops a0 V I L σ a w) (j : Nat) (d : Tmp) (hj : L j = true) (hd : dstOf ops j = some d) : a.eval (.tmp d) = σ j := by
  have := h.slot j d hj hd
  simp [Act.eval, this]
theorem VJ.old {L : Nat → Bool} {σ : Nat → Value} {a : Act} {w : World} (h : VJ ops a0 V I L σ a w) (t : Tmp) (ht : (List.range ops.size).all (fun i => dstOf ops i != some t) = true) : a.eval (.tmp t) = a0.eval (.tmp t) := by
  have := h.frame t (fun i hi he => by
    rw [List.all_eq_true] at ht
    have := ht i (List.mem_range.2 (h.inb i hi))
    simp [he] at this)
  simp [Act.eval, this]
/-- An operation without a guard that hands on a value and leaves the world as it is. -/
theorem stepOK_val (hg : o.guard = none)
    (h : ∀ (L : Nat → Bool) (σ : Nat → Value) (a : Act) (w : World), VJ ops a0 V I L σ a w → (∀ j ∈ deps o, L j = true) → I L σ w → ∃ v, (execOp a.eval o).run P w = .ok (.value v) w ∧ V i v ∧ I (fun j => L j || j == i) (fun j => if j = i then v else σ j) w) : stepOK P ops Q a0 V I i o := by
  intro L σ a w hJ hL hd
  have hw : Region.wanted o (yielded ops a.tmps) = true := by simp [Region.wanted, hg]
  rw [if_pos hw]
  obtain ⟨v, h1, h2, h3⟩ := h L σ a w hJ hd hJ.inv
  unfold Oper.wp
  rw [h1]
  exact ⟨v, rfl, h2, h3⟩
/-- What is done has waited. -/
theorem VJ.wait {L : Nat → Bool} {σ : Nat → Value} {a : Act} {w : World} (h : VJ ops a0 V I L σ a w) {j : Nat} (ho : ops[i]? = some o) (hL : L i = true) (hj : j ∈ deps o) : L j = true := by
  simp only [deps, List.mem_map, List.mem_filter, Array.mem_toList_iff] at hj
  obtain ⟨e, ⟨he, hbe⟩, rfl⟩ := hj
  exact h.closed i o ho hL e he hbe
/-- An operation without a guard. -/
theorem stepOK_op (hg : o.guard = none)
    (h : ∀ (L : Nat → Bool) (σ : Nat → Value) (a : Act) (w : World), VJ ops a0 V I L σ a w → L i = false → (∀ j ∈ deps o, L j = true) → I L σ w → o.wp P a w (fun a' w' => ∃ v, a' = a.put o.dst v ∧ V i v ∧ I (fun j => L j || j == i) (fun j => if j = i then v else σ j) w') Q) : stepOK P ops Q a0 V I i o := by
  intro L σ a w hJ hL hd
  have hw : Region.wanted o (yielded ops a.tmps) = true := by simp [Region.wanted, hg]
  rw [if_pos hw]
  exact h L σ a w hJ hL hd hJ.inv
theorem VJ.wanted {L : Nat → Bool} {σ : Nat → Value} {a : Act} {w : World} (h : VJ ops a0 V I L σ a w) {j : Nat} {want : Bool} {d : Tmp} {b : Bool} (hg : o.guard = some (j, want)) (hd : dstOf ops j = some d) (hj : L j = true) (hv : σ j = .bool b) :
    Region.wanted o (yielded ops a.tmps) = (b == want) := by
  have h1 := h.slot j d hj hd
  unfold dstOf at hd
  simp [Region.wanted, hg, yielded, hd, h1, hv]
/-- A guarded operation that is carried out. -/
theorem stepOK_yes {j : Nat} {want : Bool} {d : Tmp} (hg : o.guard = some (j, want)) (hdst : dstOf ops j = some d) (hj : j ∈ deps o) (hv : ∀ v, V j v → v = .bool want)
    (h : ∀ (L : Nat → Bool) (σ : Nat → Value) (a : Act) (w : World), VJ ops a0 V I L σ a w → (∀ j ∈ deps o, L j = true) → I L σ w → o.wp P a w (fun a' w' => ∃ v, a' = a.put o.dst v ∧ V i v ∧ I (fun j => L j || j == i) (fun j => if j = i then v else σ j) w') Q) : stepOK P ops Q a0 V I i o := by
  intro L σ a w hJ hL hd
  rw [hJ.wanted hg hdst (hd j hj) (hv _ (hJ.val j (hd j hj)))]
  simp only [beq_self_eq_true, if_true]
  exact h L σ a w hJ hd hJ.inv
theorem stepOK_yesval {j : Nat} {want : Bool} {d : Tmp} (hg : o.guard = some (j, want)) (hdst : dstOf ops j = some d) (hj : j ∈ deps o) (hv : ∀ v, V j v → v = .bool want)
    (h : ∀ (L : Nat → Bool) (σ : Nat → Value) (a : Act) (w : World), VJ ops a0 V I L σ a w → (∀ j ∈ deps o, L j = true) → I L σ w → ∃ v, (execOp a.eval o).run P w = .ok (.value v) w ∧ V i v ∧ I (fun j => L j || j == i) (fun j => if j = i then v else σ j) w) : stepOK P ops Q a0 V I i o :=
  stepOK_yes hg hdst hj hv fun L σ a w hJ hd hI => by
    obtain ⟨v, h1, h2, h3⟩ := h L σ a w hJ hd hI
    unfold Oper.wp
    rw [h1]
    exact ⟨v, rfl, h2, h3⟩
/-- A guarded operation that is passed over. -/
theorem stepOK_no {j : Nat} {want : Bool} {d : Tmp} (hg : o.guard = some (j, want)) (hdst : dstOf ops j = some d) (hj : j ∈ deps o) (hv : ∀ v, V j v → v = .bool (!want))
    (hu : V i undef) (h : ∀ (L : Nat → Bool) (σ : Nat → Value) (w : World), I L σ w → I (fun j => L j || j == i) (fun j => if j = i then undef else σ j) w) : stepOK P ops Q a0 V I i o := by
  intro L σ a w hJ hL hd
  rw [hJ.wanted hg hdst (hd j hj) (hv _ (hJ.val j (hd j hj)))]
  have : ((!want) == want) = false := by cases want <;> rfl
  rw [this]
  exact ⟨hu, h L σ w hJ.inv⟩
theorem oper_call {f : FuncId} {args : Array Operand} {ats : Array TypeId} {a : Act} {w : World} {K : Act → World → Prop} {v : Value → World → Prop} (ho : o.op = .call { callee := .value (.func f), args := args, argTypes := ats })
    (en : ∀ vs w, (callFunc f vs).run P w = .ok (.enter f vs) w) (h : Calls P f (args.map a.eval) w fun e w' => ∃ u, e = .returned u ∧ v u w') (hk : ∀ u w', v u w' → K (a.put o.dst u) w') : o.wp P a w K Q := by
  unfold Oper.wp
  have e1 : (execOp a.eval o).run P w = .ok (.enter f (args.map a.eval)) w := by
    unfold execOp
    simp [ho, resolve, Act.eval, Deferred.ofValue, invoke, en]
  rw [e1]
  refine h.mono ?_
  rintro e w' ⟨u, rfl, hu⟩
  exact hk u w' hu
/-- A call of a Go function, without a guard, whose contract hands on a value. -/
theorem stepOK_call (hg : o.guard = none) (f : FuncId) (args : Array Operand) (ats : Array TypeId) (ho : o.op = .call { callee := .value (.func f), args := args, argTypes := ats })
    (en : ∀ vs w, (callFunc f vs).run P w = .ok (.enter f vs) w)
    (h : ∀ (L : Nat → Bool) (σ : Nat → Value) (a : Act) (w : World), VJ ops a0 V I L σ a w → (∀ j ∈ deps o, L j = true) → I L σ w →
      Calls P f (args.map a.eval) w fun e w' => ∃ v, e = .returned v ∧ V i v ∧ I (fun j => L j || j == i) (fun j => if j = i then v else σ j) w') : stepOK P ops Q a0 V I i o := by
  refine stepOK_op hg fun L σ a w hJ _ hd hI => ?_
  unfold Oper.wp
  have e1 : (execOp a.eval o).run P w = .ok (.enter f (args.map a.eval)) w := by
    unfold execOp
    simp [ho, resolve, Act.eval, Deferred.ofValue, invoke, en]
  rw [e1]
  refine (h L σ a w hJ hd hI).mono ?_
  rintro e w' ⟨v, rfl, hv, hI'⟩
  exact ⟨v, rfl, hv, hI'⟩
end
end Go.Proofs.Ytcaekploljpmeaa
