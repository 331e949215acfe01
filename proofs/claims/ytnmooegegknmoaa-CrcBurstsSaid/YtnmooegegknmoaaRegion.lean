/-
  A region whose order Go leaves open, by an invariant: each of its operations is shown ONCE, out of what the operations that it waits for have left, in whatever order the others come.
  It serves where every operation gives one value (told by 'T', slot by slot) and turns nothing that was there.
-/
import Derived.WalkKit
import Derived.WalkSpells
namespace Go.Proofs.Reg
open Go.RowKit

section
variable {P : Program} {ops : Array Oper} {Q : Exit → Act → World → Prop}

/-- The slots that the region writes. -/
def dsts (ops : Array Oper) : List Tmp := ops.toList.filterMap (·.dst)

/-- What slot d holds meets T. -/
def Has (T : Tmp → Value → World → Prop) (a : Act) (w : World) (d : Tmp) : Prop := ∃ v, a.tmps[d]? = some v ∧ T d v w

/-- What operation number j has left. -/
def Got (ops : Array Oper) (T : Tmp → Value → World → Prop) (a : Act) (w : World) (j : Nat) : Prop :=
  match ops[j]? with
  | some o => match o.dst with
    | some d => Has T a w d
    | none => True
  | none => True

/-- The slots that the region does not write, the rest of the frame. -/
def Same (ops : Array Oper) (a0 a : Act) : Prop := a.defers = a0.defers ∧ a.tmps.size = a0.tmps.size ∧ ∀ d, d ∉ dsts ops → a.tmps[d]? = a0.tmps[d]?

/-- Each of these slots holds what T says. -/
def HasL (T : Tmp → Value → World → Prop) (a : Act) (w : World) : List Tmp → Prop
  | [] => True
  | d :: r => Has T a w d ∧ HasL T a w r

/-- One operation's duty. -/
def Step (P : Program) (ops : Array Oper) (Q : Exit → Act → World → Prop) (T : Tmp → Value → World → Prop) (a0 : Act) (w0 : World) (o : Oper) : Prop :=
  ∀ a w, Below w0.heap.size w0 w → Same ops a0 a → HasL T a w (o.looksAt ops) →
    if Region.wanted o (yielded ops a.tmps) then o.wp P a w (fun a' w' => ∃ v, a' = a.put o.dst v ∧ Below w.heap.size w w' ∧ ∀ d, o.dst = some d → T d v w') Q
    else ∀ d, o.dst = some d → T d undef w

def Steps (P : Program) (ops : Array Oper) (Q : Exit → Act → World → Prop) (T : Tmp → Value → World → Prop) (a0 : Act) (w0 : World) : List Oper → Prop
  | [] => True
  | o :: r => Step P ops Q T a0 w0 o ∧ Steps P ops Q T a0 w0 r

theorem steps_at {T : Tmp → Value → World → Prop} {a0 : Act} {w0 : World} (l : List Oper) : Steps P ops Q T a0 w0 l → ∀ o ∈ l, Step P ops Q T a0 w0 o := by
  induction l with
  | nil => intro _ o ho; cases ho
  | cons x l ih =>
    intro h o ho
    obtain ⟨h1, h2⟩ := h
    rcases List.mem_cons.1 ho with rfl | ho
    · exact h1
    · exact ih h2 o ho

theorem hasL_of {T : Tmp → Value → World → Prop} {a : Act} {w : World} : ∀ {l : List Tmp}, (∀ d ∈ l, Has T a w d) → HasL T a w l
  | [], _ => trivial
  | e :: _, h => ⟨h e (by simp), hasL_of fun e' he' => h e' (by simp [he'])⟩
theorem has_of {T : Tmp → Value → World → Prop} {a : Act} {w : World} : ∀ {l : List Tmp}, HasL T a w l → ∀ d ∈ l, Has T a w d
  | [], _, _, hd => by cases hd
  | e :: _, h, d, hd => by
    rcases List.mem_cons.1 hd with rfl | hd
    · exact h.1
    · exact has_of h.2 d hd

/-- Whatever an operation looks at came in ('ins'), or is written by one that it waits for. -/
def closed (ops : Array Oper) (ins : List Tmp) : Bool :=
  ins.all (fun d => !(dsts ops).contains d) && ops.toList.all fun o => (o.looksAt ops).all fun d => ins.contains d || o.after.any fun e => Region.binds .any e && ((ops[e.on]?).bind (·.dst) == some d)

/-- No slot is written twice; each lies in the frame. -/
def fits (ops : Array Oper) (n : Nat) : Bool := decide ((dsts ops).Nodup) && (dsts ops).all (· < n)

theorem dsts_inj_list : ∀ (l : List Oper), (l.filterMap (·.dst)).Nodup → ∀ {i j : Nat} {o p : Oper} {d : Tmp}, l[i]? = some o → l[j]? = some p → o.dst = some d → p.dst = some d → i = j := by
  intro l
  induction l with
  | nil => intro _ i j o p d hi; simp at hi
  | cons x l ih =>
    intro h i j o p d hi hj ho hp
    cases i with
    | zero =>
      cases j with
      | zero => rfl
      | succ j =>
        simp at hi hj
        subst hi
        rw [List.filterMap_cons, ho] at h
        exact absurd (List.mem_filterMap.2 ⟨p, List.mem_of_getElem? hj, hp⟩) (List.nodup_cons.1 h).1
    | succ i =>
      cases j with
      | zero =>
        simp at hi hj
        subst hj
        rw [List.filterMap_cons, hp] at h
        exact absurd (List.mem_filterMap.2 ⟨o, List.mem_of_getElem? hi, ho⟩) (List.nodup_cons.1 h).1
      | succ j =>
        simp at hi hj
        have h' : (l.filterMap (·.dst)).Nodup := by
          rw [List.filterMap_cons] at h
          cases hx : x.dst with
          | none => rw [hx] at h; exact h
          | some y => rw [hx] at h; exact (List.nodup_cons.1 h).2
        rw [ih h' hi hj ho hp]

theorem dsts_inj (h : (dsts ops).Nodup) {i j : Nat} {o p : Oper} {d : Tmp} (hi : ops[i]? = some o) (hj : ops[j]? = some p) (ho : o.dst = some d) (hp : p.dst = some d) : i = j :=
  dsts_inj_list ops.toList h (by simpa using hi) (by simpa using hj) ho hp

/-- How many have not come yet. -/
def left (ops : Array Oper) (listed : Array Bool) : Nat := ((List.range ops.size).filter fun i => !listed.getD i true).length

theorem ready_left {listed : Array Bool} {i : Nat} (hs : listed.size = ops.size) (hi : i ∈ Region.ready .any ops listed) : left ops (listed.setIfInBounds i true) + 1 ≤ left ops listed := by
  obtain ⟨h0, o, ho, _⟩ := mem_ready.1 hi
  have hlt : i < ops.size := (Array.getElem?_eq_some_iff.1 ho).1
  unfold left
  have e : ∀ l : List Nat, l.Nodup → i ∈ l → (l.filter fun j => !(listed.setIfInBounds i true).getD j true).length + 1 ≤ (l.filter fun j => !listed.getD j true).length := by
    intro l
    induction l with
    | nil => intro _ h; cases h
    | cons x l ih =>
      intro hn hm
      obtain ⟨hx, hn'⟩ := List.nodup_cons.1 hn
      rcases List.mem_cons.1 hm with rfl | hm
      · rw [List.filter_cons, List.filter_cons]
        have e1 : (listed.setIfInBounds i true).getD i true = true := by
          have hl' : i < listed.size := by rw [hs]; exact hlt
          rw [Array.getD, dif_pos (by simpa using hl')]
          simp
        rw [e1, h0]
        simp only [Bool.not_true, Bool.false_eq_true, if_false, Bool.not_false, if_true, List.length_cons]
        have : (l.filter fun j => !(listed.setIfInBounds i true).getD j true) = (l.filter fun j => !listed.getD j true) := by
          refine List.filter_congr ?_
          intro j hj
          have hne : i ≠ j := fun e => hx (e ▸ hj)
          rw [getD_set_ne true hne]
        rw [this]
        exact Nat.le_refl _
      · have hne : i ≠ x := fun e => hx (e ▸ hm)
        rw [List.filter_cons, List.filter_cons, getD_set_ne true hne]
        have := ih hn' hm
        split
        · simp only [List.length_cons]
          omega
        · exact this
  exact e _ List.nodup_range (by simpa using hlt)

theorem ready_ne_nil {listed : Array Bool} (h : left ops listed = 0) : Region.ready .any ops listed = [] := by
  rw [List.eq_nil_iff_forall_not_mem]
  intro i hi
  obtain ⟨h0, o, ho, _⟩ := mem_ready.1 hi
  have hlt : i < ops.size := (Array.getElem?_eq_some_iff.1 ho).1
  unfold left at h
  have h := List.eq_nil_of_length_eq_zero h
  have : i ∈ (List.range ops.size).filter fun i => !listed.getD i true := by
    rw [List.mem_filter]
    exact ⟨by simpa using hlt, by rw [h0]; rfl⟩
  rw [h] at this
  cases this

/-- Every operation waits for earlier ones alone. -/
def forwards (ops : Array Oper) : Bool := ops.toList.zipIdx.all fun (o, i) => o.after.all fun e => decide (e.on < i)

theorem all_listed (hf : forwards ops = true) {listed : Array Bool} (h : Region.ready .any ops listed = []) : ∀ i, i < ops.size → listed.getD i true = true := by
  intro i
  induction i using Nat.strongRecOn with
  | ind i ih =>
    intro hlt
    cases hl : listed.getD i true with
    | true => rfl
    | false =>
      exfalso
      have ho : ops[i]? = some ops[i] := by simp [hlt]
      have hm : i ∈ Region.ready .any ops listed := by
        refine mem_ready.2 ⟨hl, ops[i], ho, fun e he _ => ?_⟩
        have hz : (ops[i], i) ∈ ops.toList.zipIdx := by
          rw [List.mem_zipIdx_iff_getElem?]
          simp [hlt]
        have := List.all_eq_true.1 hf _ hz
        simp only at this
        have := of_decide_eq_true (Array.all_eq_true_iff_forall_mem.1 this e he)
        have h1 := ih e.on this (by omega)
        have hi : i < listed.size := by
          rcases Nat.lt_or_ge i listed.size with h' | h'
          · exact h'
          · simp [Array.getD, Nat.not_lt.2 h'] at hl
        have hi' : e.on < listed.size := by omega
        simp [Array.getD, hi'] at h1 ⊢
        exact h1
      rw [h] at hm
      cases hm

/-- What holds between two operations. -/
def Inv (ops : Array Oper) (T : Tmp → Value → World → Prop) (a0 : Act) (w0 : World) (listed : Array Bool) (a : Act) (w : World) : Prop :=
  Below w0.heap.size w0 w ∧ Same ops a0 a ∧ listed.size = ops.size ∧ ∀ j, listed.getD j false = true → Got ops T a w j

theorem inv_run {T : Tmp → Value → World → Prop} {a0 : Act} {w0 : World} {ins : List Tmp} (hcl : closed ops ins = true) (hins : HasL T a0 w0 ins) (hn : (dsts ops).Nodup) (hin : ∀ d ∈ dsts ops, d < a0.tmps.size)
    (mono : ∀ d v w w', T d v w → Below w.heap.size w w' → T d v w')
    (hstep : ∀ o ∈ ops.toList, Step P ops Q T a0 w0 o)
    (hdone : ∀ listed a w, Inv ops T a0 w0 listed a w → Region.ready .any ops listed = [] → Q .normal a w) :
    ∀ (fuel : Nat) (listed : Array Bool) (a : Act) (w : World), left ops listed ≤ fuel → Inv ops T a0 w0 listed a w → wpAny P .any ops Q fuel listed a w := by
  intro fuel
  induction fuel with
  | zero =>
    intro listed a w hl hI
    have := ready_ne_nil (ops := ops) (listed := listed) (by omega)
    exact ⟨this, hdone _ _ _ hI this⟩
  | succ fuel ih =>
    intro listed a w hl hI
    refine ⟨hdone _ _ _ hI, fun i hi => ?_⟩
    obtain ⟨hB, hS, hsz, hG⟩ := hI
    obtain ⟨h0, o, ho, hall⟩ := mem_ready.1 hi
    have hlt : i < ops.size := (Array.getElem?_eq_some_iff.1 ho).1
    have hmem : o ∈ ops.toList := by simpa using Array.mem_of_getElem? ho
    have hlf := ready_left hsz hi
    have hin1 : ∀ d ∈ ins, Has T a w d := fun d hd => by
      unfold closed at hcl
      rw [Bool.and_eq_true, List.all_eq_true] at hcl
      have hnd : d ∉ dsts ops := by simpa using hcl.1 d hd
      obtain ⟨v, hv, hT⟩ := has_of hins d hd
      exact ⟨v, by rw [hS.2.2 d hnd]; exact hv, mono _ _ _ _ hT hB⟩
    have st := hstep o hmem a w hB hS (hasL_of fun d hd => by
      unfold closed at hcl
      rw [Bool.and_eq_true, List.all_eq_true, List.all_eq_true] at hcl
      have h := List.all_eq_true.1 (hcl.2 o hmem) d hd
      rcases Bool.or_eq_true_iff.1 h with h | h
      · exact hin1 d (by simpa using h)
      · obtain ⟨e, he, hb⟩ := Array.any_eq_true'.1 h
        simp only [Bool.and_eq_true, beq_iff_eq] at hb
        have hg := hG e.on (hall e he hb.1)
        unfold Got at hg
        cases hp : ops[e.on]? with
        | none => rw [hp] at hb; simp at hb
        | some p =>
          rw [hp] at hg hb
          simp only [Option.bind_some] at hb
          simp only [hb.2] at hg
          exact hg)
    -- what follows, behind the operation
    have next : ∀ v w', Below w.heap.size w w' → (∀ d, o.dst = some d → T d v w') → wpAny P .any ops Q fuel (listed.setIfInBounds i true) (a.put o.dst v) w' := by
      intro v w' hb hv
      refine ih _ _ _ (by omega) ⟨hB.trans (hb.mono hB.size), ?_, by simpa using hsz, ?_⟩
      · obtain ⟨s1, s2, s3⟩ := hS
        cases hd : o.dst with
        | none => exact ⟨s1, s2, s3⟩
        | some d =>
          have hdm : d ∈ dsts ops := List.mem_filterMap.2 ⟨o, hmem, hd⟩
          refine ⟨s1, by simpa [Act.put] using s2, fun d' hd' => ?_⟩
          have hne : d ≠ d' := fun e => hd' (e ▸ hdm)
          rw [← s3 d' hd']
          simp [Act.put, Array.getElem?_setIfInBounds_ne hne]
      · intro j hj
        by_cases hij : i = j
        · subst hij
          unfold Got
          rw [ho]
          cases hd : o.dst with
          | none => simp [hd]
          | some d =>
            have hdm : d ∈ dsts ops := List.mem_filterMap.2 ⟨o, hmem, hd⟩
            have hlt' : d < a.tmps.size := by rw [hS.2.1]; exact hin d hdm
            simp only [hd]
            exact ⟨v, by simp [Act.put, hlt'], hv d hd⟩
        · have hj' : listed.getD j false = true := by rwa [getD_set_ne false hij] at hj
          have hg := hG j hj'
          unfold Got at hg ⊢
          cases hp : ops[j]? with
          | none => trivial
          | some p =>
            rw [hp] at hg
            simp only at hg ⊢
            cases hpd : p.dst with
            | none => simp
            | some d' =>
              rw [hpd] at hg
              simp only at hg ⊢
              obtain ⟨u, hu, hT⟩ := hg
              refine ⟨u, ?_, mono _ _ _ _ hT hb⟩
              cases hd : o.dst with
              | none => exact hu
              | some d =>
                have hne : d ≠ d' := fun e => hij (dsts_inj hn ho hp hd (e ▸ hpd))
                simpa [Act.put, Array.getElem?_setIfInBounds_ne hne] using hu
    unfold wpOp
    rw [ho]
    simp only
    by_cases hw : Region.wanted o (yielded ops a.tmps) = true
    · rw [if_pos hw] at st ⊢
      refine .inl (Oper.wp_mono (fun a' w' ⟨v, e, hb, hv⟩ => ?_) st)
      subst e
      exact next v w' hb hv
    · rw [if_neg hw] at st ⊢
      exact next undef w (Below.refl _ _) st

/-- THE LAW. -/
theorem region_inv {id : Nat} {a0 : Act} {w0 : World} (T : Tmp → Value → World → Prop) (ins : List Tmp) (hm : P.follows .mixedOrders = true) (hf : fits ops a0.tmps.size = true)
    (hfw : forwards ops = true) (hcl : closed ops ins = true) (hins : HasL T a0 w0.drew ins)
    (mono : ∀ d v w w', T d v w → Below w.heap.size w w' → T d v w')
    (hstep : Steps P ops Q T a0 w0.drew ops.toList)
    (hdone : ∀ a w, Below w0.heap.size w0 w → Same ops a0 a → (∀ d ∈ dsts ops, Has T a w d) → Q .normal a w) : (Code.region id ops true).wp P Q a0 w0 := by
  unfold fits at hf
  simp only [Bool.and_eq_true, decide_eq_true_eq, List.all_eq_true] at hf
  refine wp_region_any hm ?_
  have hinv : Inv ops T a0 w0.drew (Array.replicate ops.size false) a0 w0.drew := by
    refine ⟨Below.refl _ _, ⟨rfl, rfl, fun _ _ => rfl⟩, by simp, fun j hj => ?_⟩
    exfalso
    by_cases h : j < ops.size
    · simp [Array.getD, h] at hj
    · simp [Array.getD, h] at hj
  refine inv_run hcl hins hf.1 hf.2 mono (fun o ho => steps_at _ hstep o ho) (fun listed a w hI hr => ?_) _ _ _ _ ?_ hinv
  · obtain ⟨hB, hS, hsz, hG⟩ := hI
    refine hdone a w ((Below.refl _ _).drew.trans hB) hS (fun d hd => ?_)
    obtain ⟨o, ho, hd⟩ := List.mem_filterMap.1 hd
    obtain ⟨i, hi⟩ := List.getElem?_of_mem ho
    have hi' : ops[i]? = some o := by simpa using hi
    have hlt : i < ops.size := (Array.getElem?_eq_some_iff.1 hi').1
    have hl : listed.getD i false = true := by
      have h := all_listed hfw hr i hlt
      have hlt' : i < listed.size := by rw [hsz]; exact hlt
      simp [Array.getD, hlt'] at h ⊢
      exact h
    have hg := hG i hl
    unfold Got at hg
    simp only [hi', hd] at hg
    exact hg
  · unfold left
    exact Nat.le_trans (List.length_filter_le _ _) (by simp)

/-- A guard that says yes. -/
theorem wanted_yes {o : Oper} {a : Act} {g : Nat} {b : Bool} {d : Tmp} (hg : o.guard = some (g, b)) (hd : (ops[g]?).bind (·.dst) = some d) (he : a.tmps[d]? = some (.bool b)) : Region.wanted o (yielded ops a.tmps) = true := by
  unfold Region.wanted yielded
  rw [hg]
  simp [hd, he]
theorem wanted_no {o : Oper} {a : Act} {g : Nat} {b c : Bool} {d : Tmp} (hg : o.guard = some (g, b)) (hd : (ops[g]?).bind (·.dst) = some d) (he : a.tmps[d]? = some (.bool c)) (hne : c ≠ b) : Region.wanted o (yielded ops a.tmps) = false := by
  unfold Region.wanted yielded
  rw [hg]
  simp [hd, he, hne]

/-- What the slots hold, by a list: the first that names the slot. -/
def slotT : List (List Tmp × (Value → World → Prop)) → Tmp → Value → World → Prop
  | [], _ => fun _ _ => True
  | (ds, p) :: r, d => if ds.contains d then p else slotT r d
def monoL : List (List Tmp × (Value → World → Prop)) → Prop
  | [] => True
  | (_, p) :: r => (∀ v w w', p v w → Below w.heap.size w w' → p v w') ∧ monoL r
theorem slotT_mono : ∀ {l : List (List Tmp × (Value → World → Prop))}, monoL l → ∀ d v w w', slotT l d v w → Below w.heap.size w w' → slotT l d v w'
  | [], _, _, _, _, _, _, _ => trivial
  | (ds, p) :: r, hl, d, v, w, w', h, hb => by
    unfold slotT at h ⊢
    split
    · rename_i hc; rw [if_pos hc] at h; exact hl.1 v w w' h hb
    · rename_i hc; rw [if_neg hc] at h; exact slotT_mono hl.2 d v w w' h hb

/-- The duty of an operation without a guard. -/
theorem step_open {T : Tmp → Value → World → Prop} {a0 : Act} {w0 : World} {o : Oper} (hg : o.guard = none)
    (h : ∀ a w, Below w0.heap.size w0 w → Same ops a0 a → HasL T a w (o.looksAt ops) → o.wp P a w (fun a' w' => ∃ v, a' = a.put o.dst v ∧ Below w.heap.size w w' ∧ ∀ d, o.dst = some d → T d v w') Q) :
    Step P ops Q T a0 w0 o := by
  intro a w hb hs hl
  have : Region.wanted o (yielded ops a.tmps) = true := by unfold Region.wanted; rw [hg]
  rw [if_pos this]
  exact h a w hb hs hl
/-- The duty of an operation whose guard says yes. -/
theorem step_yes {T : Tmp → Value → World → Prop} {a0 : Act} {w0 : World} {o : Oper} {g : Nat} {b : Bool} {d : Tmp} (hg : o.guard = some (g, b)) (hd : (ops[g]?).bind (·.dst) = some d) (hT : ∀ v w, T d v w → v = .bool b) (hm : d ∈ o.looksAt ops)
    (h : ∀ a w, Below w0.heap.size w0 w → Same ops a0 a → HasL T a w (o.looksAt ops) → o.wp P a w (fun a' w' => ∃ v, a' = a.put o.dst v ∧ Below w.heap.size w w' ∧ ∀ d, o.dst = some d → T d v w') Q) :
    Step P ops Q T a0 w0 o := by
  intro a w hb hs hl
  obtain ⟨v, hv, ht⟩ := has_of hl d hm
  rw [hT v w ht] at hv
  rw [if_pos (wanted_yes hg hd hv)]
  exact h a w hb hs hl
end
end Go.Proofs.Reg
