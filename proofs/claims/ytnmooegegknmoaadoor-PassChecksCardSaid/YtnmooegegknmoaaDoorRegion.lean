/-
  A region whose order Go leaves open, by an invariant: each of its operations is shown ONCE, out of what the operations that it waits for have left, in whatever order the others come.
  It serves where every operation gives one value (told by 'T', slot by slot) and turns nothing that was there.
-/
import Derived.WalkKit
import Derived.WalkSpells
import Derived.StillTail
namespace Go.Proofs.Reg
open Go.RowKit

section
variable {P : Program} {ops : Array Oper} {Q : Exit → Act → World → Prop}

/-- The slots that the region writes. -/
def dsts (ops : Array Oper) : List Tmp := ops.toList.filterMap (·.dst)

/-- What slot d holds meets T. -/
def Has (T : Tmp → Value → World → Prop) (a : Act) (w : World) (d : Tmp) : Prop := ∃ v, a.tmps[d]? = some v ∧ T d v w

/-- What operation number j has left. -/
def Got (ops : Array Oper) (T : Tmp → Value → World → Prop) (a : Act) (w : World) (j : Nat) : Prop :=
  match ops[j]? with
  | some o => match o.dst with
    | some d => Has T a w d
    | none => True
  | none => True

/-- The slots that the region does not write, the rest of the frame. -/
def Same (ops : Array Oper) (a0 a : Act) : Prop := a.defers = a0.defers ∧ a.tmps.size = a0.tmps.size ∧ ∀ d, d ∉ dsts ops → a.tmps[d]? = a0.tmps[d]?

/-- Each of these slots holds what T says. -/
def HasL (T : Tmp → Value → World → Prop) (a : Act) (w : World) : List Tmp → Prop
  | [] => True
  | d :: r => Has T a w d ∧ HasL T a w r

/-- One operation's duty. -/
def Step (P : Program) (ops : Array Oper) (Q : Exit → Act → World → Prop) (T : Tmp → Value → World → Prop) (a0 : Act) (w0 : World) (o : Oper) : Prop :=
  ∀ a w, Below w0.heap.size w0 w → Same ops a0 a → HasL T a w (o.looksAt ops) →
    if Region.wanted o (yielded ops a.tmps) then o.wp P a w (fun a' w' => ∃ v, a' = a.put o.dst v ∧ Below w.heap.size w w' ∧ ∀ d, o.dst = some d → T d v w') Q
    else ∀ d, o.dst = some d → T d undef w

def Steps (P : Program) (ops : Array Oper) (Q : Exit → Act → World → Prop) (T : Tmp → Value → World → Prop) (a0 : Act) (w0 : World) : List Oper → Prop
  | [] => True
  | o :: r => Step P ops Q T a0 w0 o ∧ Steps P ops Q T a0 w0 r

theorem steps_at {T : Tmp → Value → World → Prop} {a0 : Act} {w0 : World} (l : List Oper) : Steps P ops Q T a0 w0 l → ∀ o ∈ l, Step P ops Q T a0 w0 o := by
  induction l with
  | nil => intro _ o ho; cases ho
  | cons x l ih =>
    intro h o ho
    obtain ⟨h1, h2⟩ := h
    rcases List.mem_cons.1 ho with rfl | ho
    · exact h1
    · exact ih h2 o ho

theorem hasL_of {T : Tmp → Value → World → Prop} {a : Act} {w : World} : ∀ {l : List Tmp}, (∀ d ∈ l, Has T a w d) → HasL T a w l
  | [], _ => trivial
  | e :: _, h => ⟨h e (by simp), hasL_of fun e' he' => h e' (by simp [he'])⟩
theorem has_of {T : Tmp → Value → World → Prop} {a : Act} {w : World} : ∀ {l : List Tmp}, HasL T a w l → ∀ d ∈ l, Has T a w d
  | [], _, _, hd => by cases hd
  | e :: _, h, d, hd => by
    rcases List.mem_cons.1 hd with rfl | hd
    · exact h.1
    · exact has_of h.2 d hd

/-- Whatever an operation looks at came in ('ins'), or is written by one that it waits for. -/
def closed (ops : Array Oper) (ins : List Tmp) : Bool :=
  ins.all (fun d => !(dsts ops).contains d) && ops.toList.all fun o => (o.looksAt ops).all fun d => ins.contains d || o.after.any fun e => Region.binds .any e && ((ops[e.on]?).bind (·.dst) == some d)

/-- No slot is written twice; each lies in the frame. -/
def fits (ops : Array Oper) (n : Nat) : Bool := decide ((dsts ops).Nodup) && (dsts ops).all (· < n)

theorem dsts_inj_list : ∀ (l : List Oper), (l.filterMap (·.dst)).Nodup → ∀ {i j : Nat} {o p : Oper} {d : Tmp}, l[i]? = some o → l[j]? = some p → o.dst = some d → p.dst = some d → i = j := by
  intro l
  induction l with
  | nil => intro _ i j o p d hi; simp at hi
  | cons x l ih =>
    intro h i j o p d hi hj ho hp
    cases i with
    | zero =>
      cases j with
      | zero => rfl
      | succ j =>
        simp at hi hj
        subst hi
        rw [List.filterMap_cons, ho] at h
        exact absurd (List.mem_filterMap.2 ⟨p, List.mem_of_getElem? hj, hp⟩) (List.nodup_cons.1 h).1
    | succ i =>
      cases j with
      | zero =>
        simp at hi hj
        subst hj
        rw [List.filterMap_cons, hp] at h
        exact absurd (List.mem_filterMap.2 ⟨o, List.mem_of_getElem? hi, ho⟩) (List.nodup_cons.1 h).1
      | succ j =>
        simp at hi hj
        have h' : (l.filterMap (·.dst)).Nodup := by
          rw [List.filterMap_cons] at h
          cases hx : x.dst with
          | none => rw [hx] at h; exact h
          | some y => rw [hx] at h; exact (List.nodup_cons.1 h).2
        rw [ih h' hi hj ho hp]

theorem dsts_inj (h : (dsts ops).Nodup) {i j : Nat} {o p : Oper} {d : Tmp} (hi : ops[i]? = some o) (hj : ops[j]? = some p) (ho : o.dst = some d) (hp : p.dst = some d) : i = j :=
  dsts_inj_list ops.toList h (by simpa using hi) (by simpa using hj) ho hp

/-- How many have not come yet. -/
def left (ops : Array Oper) (listed : Array Bool) : Nat := ((List.range ops.size).filter fun i => !listed.getD i true).length

theorem ready_left {listed : Array Bool} {i : Nat} (hs : listed.size = ops.size) (hi : i ∈ Region.ready .any ops listed) : left ops (listed.setIfInBounds i true) + 1 ≤ left ops listed := by
  obtain ⟨h0, o, ho, _⟩ := mem_ready.1 hi
  have hlt : i < ops.size := (Array.getElem?_eq_some_iff.1 ho).1
  unfold left
  have e : ∀ l : List Nat, l.Nodup → i ∈ l → (l.filter fun j => !(listed.setIfInBounds i true).getD j true).length + 1 ≤ (l.filter fun j => !listed.getD j true).length := by
    intro l
    induction l with
    | nil => intro _ h; cases h
    | cons x l ih =>
      intro hn hm
      obtain ⟨hx, hn'⟩ := List.nodup_cons.1 hn
      rcases List.mem_cons.1 hm with rfl | hm
      · rw [List.filter_cons, List.filter_cons]
        have e1 : (listed.setIfInBounds i true).getD i true = true := by
          have hl' : i < listed.size := by rw [hs]; exact hlt
          rw [Array.getD, dif_pos (by simpa using hl')]
          simp
        rw [e1, h0]
        simp only [Bool.not_true, Bool.false_eq_true, if_false, Bool.not_false, if_true, List.length_cons]
        have : (l.filter fun j => !(listed.setIfInBounds i true).getD j true) = (l.filter fun j => !listed.getD j true) := by
          refine List.filter_congr ?_
          intro j hj
          have hne : i ≠ j := fun e => hx (e ▸ hj)
          rw [getD_set_ne true hne]
        rw [this]
        exact Nat.le_refl _
      · have hne : i ≠ x := fun e => hx (e ▸ hm)
        rw [List.filter_cons, List.filter_cons, getD_set_ne true hne]
        have := ih hn' hm
        split
        · simp only [List.length_cons]
          omega
        · exact this
  exact e _ List.nodup_range (by simpa using hlt)

theorem ready_ne_nil {listed : Array Bool} (h : left ops listed = 0) : Region.ready .any ops listed = [] := by
  rw [List.eq_nil_iff_forall_not_mem]
  intro i hi
  obtain ⟨h0, o, ho, _⟩ := mem_ready.1 hi
  have hlt : i < ops.size := (Array.getElem?_eq_some_iff.1 ho).1
  unfold left at h
  have h := List.eq_nil_of_length_eq_zero h
  have : i ∈ (List.range ops.size).filter fun i => !listed.getD i true := by
    rw [List.mem_filter]
    exact ⟨by simpa using hlt, by rw [h0]; rfl⟩
  rw [h] at this
  cases this

/-- Every operation waits for earlier ones alone. -/
def forwards (ops : Array Oper) : Bool := ops.toList.zipIdx.all fun (o, i) => o.after.all fun e => decide (e.on < i)

theorem all_listed (hf : forwards ops = true) {listed : Array Bool} (h : Region.ready .any ops listed = []) : ∀ i, i < ops.size → listed.getD i true = true := by
  intro i
  induction i using Nat.strongRecOn with
  | ind i ih =>
    intro hlt
    cases hl : listed.getD i true with
    | true => rfl
    | false =>
      exfalso
      have ho : ops[i]? = some ops[i] := by simp [hlt]
      have hm : i ∈ Region.ready .any ops listed := by
        refine mem_ready.2 ⟨hl, ops[i], ho, fun e he _ => ?_⟩
        have hz : (ops[i], i) ∈ ops.toList.zipIdx := by
          rw [List.mem_zipIdx_iff_getElem?]
          simp [hlt]
        have := List.all_eq_true.1 hf _ hz
        simp only at this
        have := of_decide_eq_true (Array.all_eq_true_iff_forall_mem.1 this e he)
        have h1 := ih e.on this (by omega)
        have hi : i < listed.size := by
          rcases Nat.lt_or_ge i listed.size with h' | h'
          · exact h'
          · simp [Array.getD, Nat.not_lt.2 h'] at hl
        have hi' : e.on < listed.size := by omega
        simp [Array.getD, hi'] at h1 ⊢
        exact h1
      rw [h] at hm
      cases hm

/-- What holds between two operations. -/
def Inv (ops : Array Oper) (T : Tmp → Value → World → Prop) (a0 : Act) (w0 : World) (listed : Array Bool) (a : Act) (w : World) : Prop :=
  Below w0.heap.size w0 w ∧ Same ops a0 a ∧ listed.size = ops.size ∧ ∀ j, listed.getD j false = true → Got ops T a w j

theorem inv_run {T : Tmp → Value → World → Prop} {a0 : Act} {w0 : World} {ins : List Tmp} (hcl : closed ops ins = true) (hins : HasL T a0 w0 ins) (hn : (dsts ops).Nodup) (hin : ∀ d ∈ dsts ops, d < a0.tmps.size)
    (mono : ∀ d v w w', T d v w → Below w.heap.size w w' → T d v w')
    (hstep : ∀ o ∈ ops.toList, Step P ops Q T a0 w0 o)
    (hdone : ∀ listed a w, Inv ops T a0 w0 listed a w → Region.ready .any ops listed = [] → Q .normal a w) :
    ∀ (fuel : Nat) (listed : Array Bool) (a : Act) (w : World), left ops listed ≤ fuel → Inv ops T a0 w0 listed a w → wpAny P .any ops Q fuel listed a w := by
  intro fuel
  induction fuel with
  | zero =>
    intro listed a w hl hI
    have := ready_ne_nil (ops := ops) (listed := listed) (by omega)
    exact ⟨this, hdone _ _ _ hI this⟩
  | succ fuel ih =>
    intro listed a w hl hI
    refine ⟨hdone _ _ _ hI, fun i hi => ?_⟩
    obtain ⟨hB, hS, hsz, hG⟩ := hI
    obtain ⟨h0, o, ho, hall⟩ := mem_ready.1 hi
    have hlt : i < ops.size := (Array.getElem?_eq_some_iff.1 ho).1
    have hmem : o ∈ ops.toList := by simpa using Array.mem_of_getElem? ho
    have hlf := ready_left hsz hi
    have hin1 : ∀ d ∈ ins, Has T a w d := fun d hd => by
      unfold closed at hcl
      rw [Bool.and_eq_true, List.all_eq_true] at hcl
      have hnd : d ∉ dsts ops := by simpa using hcl.1 d hd
      obtain ⟨v, hv, hT⟩ := has_of hins d hd
      exact ⟨v, by rw [hS.2.2 d hnd]; exact hv, mono _ _ _ _ hT hB⟩
    have st := hstep o hmem a w hB hS (hasL_of fun d hd => by
      unfold closed at hcl
      rw [Bool.and_eq_true, List.all_eq_true, List.all_eq_true] at hcl
      have h := List.all_eq_true.1 (hcl.2 o hmem) d hd
      rcases Bool.or_eq_true_iff.1 h with h | h
      · exact hin1 d (by simpa using h)
      · obtain ⟨e, he, hb⟩ := Array.any_eq_true'.1 h
        simp only [Bool.and_eq_true, beq_iff_eq] at hb
        have hg := hG e.on (hall e he hb.1)
        unfold Got at hg
        cases hp : ops[e.on]? with
        | none => rw [hp] at hb; simp at hb
        | some p =>
          rw [hp] at hg hb
          simp only [Option.bind_some] at hb
          simp only [hb.2] at hg
          exact hg)
    -- what follows, behind the operation
    have next : ∀ v w', Below w.heap.size w w' → (∀ d, o.dst = some d → T d v w') → wpAny P .any ops Q fuel (listed.setIfInBounds i true) (a.put o.dst v) w' := by
      intro v w' hb hv
      refine ih _ _ _ (by omega) ⟨hB.trans (hb.mono hB.size), ?_, by simpa using hsz, ?_⟩
      · obtain ⟨s1, s2, s3⟩ := hS
        cases hd : o.dst with
        | none => exact ⟨s1, s2, s3⟩
        | some d =>
          have hdm : d ∈ dsts ops := List.mem_filterMap.2 ⟨o, hmem, hd⟩
          refine ⟨s1, by simpa [Act.put] using s2, fun d' hd' => ?_⟩
          have hne : d ≠ d' := fun e => hd' (e ▸ hdm)
          rw [← s3 d' hd']
          simp [Act.put, Array.getElem?_setIfInBounds_ne hne]
      · intro j hj
        by_cases hij : i = j
        · subst hij
          unfold Got
          rw [ho]
          cases hd : o.dst with
          | none => simp [hd]
          | some d =>
            have hdm : d ∈ dsts ops := List.mem_filterMap.2 ⟨o, hmem, hd⟩
            have hlt' : d < a.tmps.size := by rw [hS.2.1]; exact hin d hdm
            simp only [hd]
            exact ⟨v, by simp [Act.put, hlt'], hv d hd⟩
        · have hj' : listed.getD j false = true := by rwa [getD_set_ne false hij] at hj
          have hg := hG j hj'
          unfold Got at hg ⊢
          cases hp : ops[j]? with
          | none => trivial
          | some p =>
            rw [hp] at hg
            simp only at hg ⊢
            cases hpd : p.dst with
            | none => simp
            | some d' =>
              rw [hpd] at hg
              simp only at hg ⊢
              obtain ⟨u, hu, hT⟩ := hg
              refine ⟨u, ?_, mono _ _ _ _ hT hb⟩
              cases hd : o.dst with
              | none => exact hu
              | some d =>
                have hne : d ≠ d' := fun e => hij (dsts_inj hn ho hp hd (e ▸ hpd))
                simpa [Act.put, Array.getElem?_setIfInBounds_ne hne] using hu
    unfold wpOp
    rw [ho]
    simp only
    by_cases hw : Region.wanted o (yielded ops a.tmps) = true
    · rw [if_pos hw] at st ⊢
      refine .inl (Oper.wp_mono (fun a' w' ⟨v, e, hb, hv⟩ => ?_) st)
      subst e
      exact next v w' hb hv
    · rw [if_neg hw] at st ⊢
      exact next undef w (Below.refl _ _) st

/-- THE LAW. -/
theorem region_inv {id : Nat} {a0 : Act} {w0 : World} (T : Tmp → Value → World → Prop) (ins : List Tmp) (hm : P.follows .mixedOrders = true) (hf : fits ops a0.tmps.size = true)
    (hfw : forwards ops = true) (hcl : closed ops ins = true) (hins : HasL T a0 w0.drew ins)
    (mono : ∀ d v w w', T d v w → Below w.heap.size w w' → T d v w')
    (hstep : Steps P ops Q T a0 w0.drew ops.toList)
    (hdone : ∀ a w, Below w0.heap.size w0 w → Same ops a0 a → (∀ d ∈ dsts ops, Has T a w d) → Q .normal a w) : (Code.region id ops true).wp P Q a0 w0 := by
  unfold fits at hf
  simp only [Bool.and_eq_true, decide_eq_true_eq, List.all_eq_true] at hf
  refine wp_region_any hm ?_
  have hinv : Inv ops T a0 w0.drew (Array.replicate ops.size false) a0 w0.drew := by
    refine ⟨Below.refl _ _, ⟨rfl, rfl, fun _ _ => rfl⟩, by simp, fun j hj => ?_⟩
    exfalso
    by_cases h : j < ops.size
    · simp [Array.getD, h] at hj
    · simp [Array.getD, h] at hj
  refine inv_run hcl hins hf.1 hf.2 mono (fun o ho => steps_at _ hstep o ho) (fun listed a w hI hr => ?_) _ _ _ _ ?_ hinv
  · obtain ⟨hB, hS, hsz, hG⟩ := hI
    refine hdone a w ((Below.refl _ _).drew.trans hB) hS (fun d hd => ?_)
    obtain ⟨o, ho, hd⟩ := List.mem_filterMap.1 hd
    obtain ⟨i, hi⟩ := List.getElem?_of_mem ho
    have hi' : ops[i]? = some o := by simpa using hi
    have hlt : i < ops.size := (Array.getElem?_eq_some_iff.1 hi').1
    have hl : listed.getD i false = true := by
      have h := all_listed hfw hr i hlt
      have hlt' : i < listed.size := by rw [hsz]; exact hlt
      simp [Array.getD, hlt'] at h ⊢
      exact h
    have hg := hG i hl
    unfold Got at hg
    simp only [hi', hd] at hg
    exact hg
  · unfold left
    exact Nat.le_trans (List.length_filter_le _ _) (by simp)

/-! The same ahead of a forced tail: the head's operations by the invariant, then the tail in its one order. -/
theorem wpAny_more {f : Nat} : ∀ {listed : Array Bool} {a : Act} {w : World}, wpAny P .any ops Q f listed a w → wpAny P .any ops Q (f + 1) listed a w := by
  induction f with
  | zero =>
    intro listed a w h
    exact ⟨fun _ => h.2, fun i hi => by rw [h.1] at hi; cases hi⟩
  | succ f ih =>
    intro listed a w h
    exact ⟨h.1, fun i hi => wpOp_mono (fun _ _ h' => ih h') (h.2 i hi)⟩
theorem wpAny_le {f g : Nat} (hfg : f ≤ g) {listed : Array Bool} {a : Act} {w : World} (h : wpAny P .any ops Q f listed a w) : wpAny P .any ops Q g listed a w := by
  induction hfg with
  | refl => exact h
  | step _ ih => exact wpAny_more ih

/-- The head is done, the tail is not begun. -/
def headDone (m n : Nat) : Array Bool := (List.ofFn (n := m) fun i => decide (i.1 < n)).toArray
def tailB (ops : Array Oper) (n : Nat) : Bool :=
  decide (n < ops.size) && forwards ops && Region.sinkB .any ops n && Region.chainB .any ops n && Region.seqB .any ops (ops.size - n) n (headDone ops.size n)

theorem headDone_of {n : Nat} {listed : Array Bool} (inv : HeadInv .any ops n listed) (hall : ∀ i, i < n → i < ops.size → listed.getD i true = true) : listed = headDone ops.size n := by
  apply Array.ext
  · rw [inv.size]
    simp [headDone]
  · intro i h1 h2
    have hi : i < ops.size := by rw [← inv.size]; exact h1
    by_cases h : i < n
    · have e := hall i h hi
      simp [Array.getD, h1] at e
      simp [headDone, h, e]
    · have e := inv.tail i (by omega) hi
      simp [Array.getD, h1] at e
      simp [headDone, h, e]

theorem inv_next {T : Tmp → Value → World → Prop} {a0 : Act} {w0 : World} (hn : (dsts ops).Nodup) (hin : ∀ d ∈ dsts ops, d < a0.tmps.size) (mono : ∀ d v w w', T d v w → Below w.heap.size w w' → T d v w')
    {listed : Array Bool} {a : Act} {w : World} {i : Nat} {o : Oper} (hI : Inv ops T a0 w0 listed a w) (ho : ops[i]? = some o) (v : Value) (w' : World) (hb : Below w.heap.size w w') (hv : ∀ d, o.dst = some d → T d v w') :
    Inv ops T a0 w0 (listed.setIfInBounds i true) (a.put o.dst v) w' := by
  obtain ⟨hB, hS, hsz, hG⟩ := hI
  have hmem : o ∈ ops.toList := by simpa using Array.mem_of_getElem? ho
  refine ⟨hB.trans (hb.mono hB.size), ?_, by simpa using hsz, ?_⟩
  · obtain ⟨s1, s2, s3⟩ := hS
    cases hd : o.dst with
    | none => exact ⟨s1, s2, s3⟩
    | some d =>
      have hdm : d ∈ dsts ops := List.mem_filterMap.2 ⟨o, hmem, hd⟩
      refine ⟨s1, by simpa [Act.put] using s2, fun d' hd' => ?_⟩
      have hne : d ≠ d' := fun e => hd' (e ▸ hdm)
      rw [← s3 d' hd']
      simp [Act.put, Array.getElem?_setIfInBounds_ne hne]
  · intro j hj
    by_cases hij : i = j
    · subst hij
      unfold Got
      rw [ho]
      cases hd : o.dst with
      | none => simp [hd]
      | some d =>
        have hdm : d ∈ dsts ops := List.mem_filterMap.2 ⟨o, hmem, hd⟩
        have hlt' : d < a.tmps.size := by rw [hS.2.1]; exact hin d hdm
        simp only [hd]
        exact ⟨v, by simp [Act.put, hlt'], hv d hd⟩
    · have hj' : listed.getD j false = true := by rwa [getD_set_ne false hij] at hj
      have hg := hG j hj'
      unfold Got at hg ⊢
      cases hp : ops[j]? with
      | none => trivial
      | some p =>
        rw [hp] at hg
        simp only at hg ⊢
        cases hpd : p.dst with
        | none => simp
        | some d' =>
          rw [hpd] at hg
          simp only at hg ⊢
          obtain ⟨u, hu, hT⟩ := hg
          refine ⟨u, ?_, mono _ _ _ _ hT hb⟩
          cases hd : o.dst with
          | none => exact hu
          | some d =>
            have hne : d ≠ d' := fun e => hij (dsts_inj hn ho hp hd (e ▸ hpd))
            simpa [Act.put, Array.getElem?_setIfInBounds_ne hne] using hu

/-- What an operation looks at is there. -/
theorem looks {T : Tmp → Value → World → Prop} {a0 : Act} {w0 : World} {ins : List Tmp} (hcl : closed ops ins = true) (hins : HasL T a0 w0 ins) (mono : ∀ d v w w', T d v w → Below w.heap.size w w' → T d v w')
    {listed : Array Bool} {a : Act} {w : World} {o : Oper} (hI : Inv ops T a0 w0 listed a w) (hmem : o ∈ ops.toList) (hall : ∀ e ∈ o.after, Region.binds .any e = true → listed.getD e.on false = true) : HasL T a w (o.looksAt ops) := by
  obtain ⟨hB, hS, hsz, hG⟩ := hI
  have hin1 : ∀ d ∈ ins, Has T a w d := fun d hd => by
    unfold closed at hcl
    rw [Bool.and_eq_true, List.all_eq_true] at hcl
    have hnd : d ∉ dsts ops := by simpa using hcl.1 d hd
    obtain ⟨v, hv, hT⟩ := has_of hins d hd
    exact ⟨v, by rw [hS.2.2 d hnd]; exact hv, mono _ _ _ _ hT hB⟩
  refine hasL_of fun d hd => ?_
  unfold closed at hcl
  rw [Bool.and_eq_true, List.all_eq_true, List.all_eq_true] at hcl
  have h := List.all_eq_true.1 (hcl.2 o hmem) d hd
  rcases Bool.or_eq_true_iff.1 h with h | h
  · exact hin1 d (by simpa using h)
  · obtain ⟨e, he, hb⟩ := Array.any_eq_true'.1 h
    simp only [Bool.and_eq_true, beq_iff_eq] at hb
    have hg := hG e.on (hall e he hb.1)
    unfold Got at hg
    cases hp : ops[e.on]? with
    | none => rw [hp] at hb; simp at hb
    | some p =>
      rw [hp] at hg hb
      simp only [Option.bind_some] at hb
      simp only [hb.2] at hg
      exact hg

/-- How many of the head have not come yet. -/
def left2 (n : Nat) (listed : Array Bool) : Nat := ((List.range n).filter fun i => !listed.getD i true).length
theorem left2_set {n i : Nat} {listed : Array Bool} (h0 : listed.getD i true = false) (hl' : i < listed.size) (hi : i < n) : left2 n (listed.setIfInBounds i true) + 1 ≤ left2 n listed := by
  unfold left2
  have e : ∀ l : List Nat, l.Nodup → i ∈ l → (l.filter fun j => !(listed.setIfInBounds i true).getD j true).length + 1 ≤ (l.filter fun j => !listed.getD j true).length := by
    intro l
    induction l with
    | nil => intro _ h; cases h
    | cons x l ih =>
      intro hn hm
      obtain ⟨hx, hn'⟩ := List.nodup_cons.1 hn
      rcases List.mem_cons.1 hm with rfl | hm
      · rw [List.filter_cons, List.filter_cons]
        have e1 : (listed.setIfInBounds i true).getD i true = true := by
          rw [Array.getD, dif_pos (by simpa using hl')]
          simp
        rw [e1, h0]
        simp only [Bool.not_true, Bool.false_eq_true, if_false, Bool.not_false, if_true, List.length_cons]
        have : (l.filter fun j => !(listed.setIfInBounds i true).getD j true) = (l.filter fun j => !listed.getD j true) := by
          refine List.filter_congr ?_
          intro j hj
          have hne : i ≠ j := fun e => hx (e ▸ hj)
          rw [getD_set_ne true hne]
        rw [this]
        exact Nat.le_refl _
      · have hne : i ≠ x := fun e => hx (e ▸ hm)
        rw [List.filter_cons, List.filter_cons, getD_set_ne true hne]
        have := ih hn' hm
        split
        · simp only [List.length_cons]
          omega
        · exact this
  exact e _ List.nodup_range (by simpa using hi)

theorem inv_run_tail {T : Tmp → Value → World → Prop} {a0 : Act} {w0 : World} {ins : List Tmp} {n : Nat} (ht : tailB ops n = true) (hcl : closed ops ins = true) (hins : HasL T a0 w0 ins) (hn : (dsts ops).Nodup) (hin : ∀ d ∈ dsts ops, d < a0.tmps.size)
    (mono : ∀ d v w w', T d v w → Below w.heap.size w w' → T d v w')
    (hstep : ∀ i o, i < n → ops[i]? = some o → Step P ops Q T a0 w0 o)
    (hdone : ∀ a w, Inv ops T a0 w0 (headDone ops.size n) a w → wpList P ops Q (ops.toList.drop n) a w) :
    ∀ (fuel : Nat) (listed : Array Bool) (a : Act) (w : World), left2 n listed + (ops.size - n) ≤ fuel → Inv ops T a0 w0 listed a w → HeadInv .any ops n listed → wpAny P .any ops Q fuel listed a w := by
  unfold tailB at ht
  simp only [Bool.and_eq_true, decide_eq_true_eq] at ht
  obtain ⟨⟨⟨⟨hlt, hfw⟩, hs⟩, hc⟩, hq⟩ := ht
  have fin : ∀ (fuel : Nat) (a : Act) (w : World), ops.size - n ≤ fuel → Inv ops T a0 w0 (headDone ops.size n) a w → wpAny P .any ops Q fuel (headDone ops.size n) a w := by
    intro fuel a w hf hI
    have hl : (ops.toList.drop n).length = ops.size - n := by simp
    have h := wpAny_of_seq (md := .any) (Q' := Q) (ops.toList.drop n) n (headDone ops.size n) a w (fun j => by simp [List.getElem?_drop]) (by rw [hl]; exact hq) (hdone a w hI)
    rw [hl] at h
    exact wpAny_le hf h
  intro fuel
  induction fuel with
  | zero => intro listed a w hl; omega
  | succ fuel ih =>
    intro listed a w hl hI hH
    by_cases hall : ∀ i, i < n → i < ops.size → listed.getD i true = true
    · have e := headDone_of hH hall
      subst e
      exact fin _ _ _ (by omega) hI
    · have hex : ∃ i, i < n ∧ listed.getD i true = false := by
        refine Classical.byContradiction fun hno => hall fun i h1 _ => ?_
        cases hg : listed.getD i true with
        | true => rfl
        | false => exact absurd ⟨i, h1, hg⟩ hno
      obtain ⟨j, hj, hju⟩ := hex
      refine ⟨fun h0 => ?_, fun i hi => ?_⟩
      · exfalso
        have hr := all_listed hfw h0 j (by omega)
        rw [hju] at hr
        cases hr
      · obtain ⟨h0, o, ho, hwait⟩ := mem_ready.1 hi
        have hin' : i < n := Nat.lt_of_not_le fun h => tail_waits hs hc hlt hH _ j rfl hj hju i h hi
        have hmem : o ∈ ops.toList := by simpa using Array.mem_of_getElem? ho
        have hlf := left2_set (n := n) h0 (by rw [hH.size]; omega) hin'
        have st := hstep i o hin' ho a w hI.1 hI.2.1 (looks hcl hins mono hI hmem hwait)
        have hH' := hH.set hi hin'
        have next : ∀ v w', Below w.heap.size w w' → (∀ d, o.dst = some d → T d v w') → wpAny P .any ops Q fuel (listed.setIfInBounds i true) (a.put o.dst v) w' := by
          intro v w' hb hv
          have hI' := inv_next hn hin mono hI ho v w' hb hv
          exact ih _ _ _ (by omega) hI' hH'
        unfold wpOp
        rw [ho]
        simp only
        by_cases hw : Region.wanted o (yielded ops a.tmps) = true
        · rw [if_pos hw] at st ⊢
          refine .inl (Oper.wp_mono (fun a' w' ⟨v, e, hb, hv⟩ => ?_) st)
          subst e
          exact next v w' hb hv
        · rw [if_neg hw] at st ⊢
          exact next undef w (Below.refl _ _) st

/-- THE LAW WITH A TAIL. -/
theorem region_inv_tail {id : Nat} {a0 : Act} {w0 : World} (n : Nat) (T : Tmp → Value → World → Prop) (ins : List Tmp) (hm : P.follows .mixedOrders = true) (hf : fits ops a0.tmps.size = true)
    (ht : tailB ops n = true) (hcl : closed ops ins = true) (hins : HasL T a0 w0.drew ins)
    (mono : ∀ d v w w', T d v w → Below w.heap.size w w' → T d v w')
    (hstep : Steps P ops Q T a0 w0.drew (ops.toList.take n))
    (hdone : ∀ a w, Below w0.drew.heap.size w0.drew w → Same ops a0 a → (∀ d ∈ (ops.toList.take n).filterMap (·.dst), Has T a w d) → wpList P ops Q (ops.toList.drop n) a w) : (Code.region id ops true).wp P Q a0 w0 := by
  unfold fits at hf
  simp only [Bool.and_eq_true, decide_eq_true_eq, List.all_eq_true] at hf
  refine wp_region_any hm ?_
  have hinv : Inv ops T a0 w0.drew (Array.replicate ops.size false) a0 w0.drew := by
    refine ⟨Below.refl _ _, ⟨rfl, rfl, fun _ _ => rfl⟩, by simp, fun j hj => ?_⟩
    exfalso
    by_cases h : j < ops.size
    · simp [Array.getD, h] at hj
    · simp [Array.getD, h] at hj
  have inv0 : HeadInv .any ops n (Array.replicate ops.size false) :=
    ⟨by simp, fun j oj _ hl => (by rw [getD_replicate_false] at hl; cases hl), fun t _ ht => getD_in (by simpa using ht) (getD_replicate_false _ _)⟩
  refine inv_run_tail ht hcl hins hf.1 hf.2 mono (fun i o hi ho => steps_at _ hstep o ?_) (fun a w hI => ?_) _ _ _ _ ?_ hinv inv0
  · have : (ops.toList.take n)[i]? = some o := by
      rw [List.getElem?_take, if_pos hi]
      simpa using ho
    exact List.mem_of_getElem? this
  · obtain ⟨hB, hS, hsz, hG⟩ := hI
    refine hdone a w hB hS (fun d hd => ?_)
    obtain ⟨o, ho, hd⟩ := List.mem_filterMap.1 hd
    obtain ⟨i, hi⟩ := List.getElem?_of_mem ho
    rw [List.getElem?_take] at hi
    by_cases hin : i < n
    · rw [if_pos hin] at hi
      have hi' : ops[i]? = some o := by simpa using hi
      have hlt : i < ops.size := (Array.getElem?_eq_some_iff.1 hi').1
      have hl : (headDone ops.size n).getD i false = true := by
        simp [headDone, Array.getD, hlt, hin]
      have hg := hG i hl
      unfold Got at hg
      simp only [hi', hd] at hg
      exact hg
    · rw [if_neg hin] at hi
      cases hi
  · have h : left2 n (Array.replicate ops.size false) ≤ n := by
      unfold left2
      exact Nat.le_trans (List.length_filter_le _ _) (by simp)
    unfold tailB at ht
    simp only [Bool.and_eq_true, decide_eq_true_eq] at ht
    omega

/-- The frame behind the head, written out: each slot that the region writes is put. -/
theorem same_put {a0 a : Act} (hs : Same ops a0 a) (vs : List (Tmp × Value)) (hv : ∀ p ∈ vs, a.tmps[p.1]? = some p.2) (hall : (dsts ops).all (fun d => vs.any fun p => p.1 == d) = true) :
    a = vs.foldl (fun a p => a.put (some p.1) p.2) a0 := by
  have hdef : ∀ (l : List (Tmp × Value)) (b : Act), (l.foldl (fun a p => a.put (some p.1) p.2) b).defers = b.defers := by
    intro l
    induction l with
    | nil => intro b; rfl
    | cons p l ih => intro b; rw [List.foldl_cons, ih]; rfl
  have hsz : ∀ (l : List (Tmp × Value)) (b : Act), (l.foldl (fun a p => a.put (some p.1) p.2) b).tmps.size = b.tmps.size := by
    intro l
    induction l with
    | nil => intro b; rfl
    | cons p l ih => intro b; rw [List.foldl_cons, ih]; simp [Act.put]
  have hat : ∀ (l : List (Tmp × Value)) (b : Act) (d : Nat), (∀ p ∈ l, a.tmps[p.1]? = some p.2) → (b.tmps.size = a.tmps.size) → (b.tmps[d]? = a.tmps[d]? ∨ l.any (fun p => p.1 == d) = true) → (l.foldl (fun a p => a.put (some p.1) p.2) b).tmps[d]? = a.tmps[d]? := by
    intro l
    induction l with
    | nil =>
      intro b d _ _ h
      rcases h with h | h
      · exact h
      · simp at h
    | cons p l ih =>
      intro b d hl hb h
      rw [List.foldl_cons]
      refine ih _ d (fun q hq => hl q (List.mem_cons_of_mem _ hq)) (by simpa [Act.put] using hb) ?_
      by_cases e : p.1 = d
      · left
        have h1 := hl p (List.mem_cons_self ..)
        subst e
        have hlt : p.1 < a.tmps.size := (Array.getElem?_eq_some_iff.1 h1).1
        rw [h1]
        simp [Act.put, hb, hlt]
      · rcases h with h | h
        · left
          rw [← h]
          simp [Act.put, Array.getElem?_setIfInBounds_ne e]
        · rw [List.any_cons, Bool.or_eq_true] at h
          rcases h with h | h
          · exact absurd (by simpa using h) e
          · exact .inr h
  obtain ⟨s1, s2, s3⟩ := hs
  have e1 : a.tmps = (vs.foldl (fun a p => a.put (some p.1) p.2) a0).tmps := by
    apply Array.ext_getElem?
    intro d
    refine (hat vs a0 d hv s2.symm ?_).symm
    by_cases hd : d ∈ dsts ops
    · exact .inr (List.all_eq_true.1 hall d hd)
    · exact .inl (s3 d hd).symm
  have e2 : a.defers = (vs.foldl (fun a p => a.put (some p.1) p.2) a0).defers := by rw [hdef]; exact s1
  obtain ⟨t, df⟩ := a
  cases hx : vs.foldl (fun a p => a.put (some p.1) p.2) a0 with
  | mk t' df' =>
    rw [hx] at e1 e2
    simp only at e1 e2
    rw [e1, e2]

def AtL (a : Act) : List (Tmp × Value) → Prop
  | [] => True
  | p :: r => a.tmps[p.1]? = some p.2 ∧ AtL a r
theorem atL_of {a : Act} : ∀ {l : List (Tmp × Value)}, AtL a l → ∀ p ∈ l, a.tmps[p.1]? = some p.2
  | [], _, _, hp => by cases hp
  | q :: r, h, p, hp => by
    rcases List.mem_cons.1 hp with rfl | hp
    · exact h.1
    · exact atL_of h.2 p hp
/-- A slot that the tail writes holds something. -/
theorem Same.some_at {a0 a : Act} (hs : Same ops a0 a) (d : Nat) (hd : d < a0.tmps.size) : ∃ v, a.tmps[d]? = some v := by
  have h : d < a.tmps.size := by rw [hs.2.1]; exact hd
  exact ⟨a.tmps[d], by simp [h]⟩

/-- A guard that says yes. -/
theorem wanted_yes {o : Oper} {a : Act} {g : Nat} {b : Bool} {d : Tmp} (hg : o.guard = some (g, b)) (hd : (ops[g]?).bind (·.dst) = some d) (he : a.tmps[d]? = some (.bool b)) : Region.wanted o (yielded ops a.tmps) = true := by
  unfold Region.wanted yielded
  rw [hg]
  simp [hd, he]
theorem wanted_no {o : Oper} {a : Act} {g : Nat} {b c : Bool} {d : Tmp} (hg : o.guard = some (g, b)) (hd : (ops[g]?).bind (·.dst) = some d) (he : a.tmps[d]? = some (.bool c)) (hne : c ≠ b) : Region.wanted o (yielded ops a.tmps) = false := by
  unfold Region.wanted yielded
  rw [hg]
  simp [hd, he, hne]

/-- What the slots hold, by a list: the first that names the slot. -/
def slotT : List (List Tmp × (Value → World → Prop)) → Tmp → Value → World → Prop
  | [], _ => fun _ _ => True
  | (ds, p) :: r, d => if ds.contains d then p else slotT r d
def monoL : List (List Tmp × (Value → World → Prop)) → Prop
  | [] => True
  | (_, p) :: r => (∀ v w w', p v w → Below w.heap.size w w' → p v w') ∧ monoL r
theorem slotT_mono : ∀ {l : List (List Tmp × (Value → World → Prop))}, monoL l → ∀ d v w w', slotT l d v w → Below w.heap.size w w' → slotT l d v w'
  | [], _, _, _, _, _, _, _ => trivial
  | (ds, p) :: r, hl, d, v, w, w', h, hb => by
    unfold slotT at h ⊢
    split
    · rename_i hc; rw [if_pos hc] at h; exact hl.1 v w w' h hb
    · rename_i hc; rw [if_neg hc] at h; exact slotT_mono hl.2 d v w w' h hb

/-- The duty of an operation without a guard. -/
theorem step_open {T : Tmp → Value → World → Prop} {a0 : Act} {w0 : World} {o : Oper} (hg : o.guard = none)
    (h : ∀ a w, Below w0.heap.size w0 w → Same ops a0 a → HasL T a w (o.looksAt ops) → o.wp P a w (fun a' w' => ∃ v, a' = a.put o.dst v ∧ Below w.heap.size w w' ∧ ∀ d, o.dst = some d → T d v w') Q) :
    Step P ops Q T a0 w0 o := by
  intro a w hb hs hl
  have : Region.wanted o (yielded ops a.tmps) = true := by unfold Region.wanted; rw [hg]
  rw [if_pos this]
  exact h a w hb hs hl
/-- The duty of an operation whose guard says yes. -/
theorem step_yes {T : Tmp → Value → World → Prop} {a0 : Act} {w0 : World} {o : Oper} {g : Nat} {b : Bool} {d : Tmp} (hg : o.guard = some (g, b)) (hd : (ops[g]?).bind (·.dst) = some d) (hT : ∀ v w, T d v w → v = .bool b) (hm : d ∈ o.looksAt ops)
    (h : ∀ a w, Below w0.heap.size w0 w → Same ops a0 a → HasL T a w (o.looksAt ops) → o.wp P a w (fun a' w' => ∃ v, a' = a.put o.dst v ∧ Below w.heap.size w w' ∧ ∀ d, o.dst = some d → T d v w') Q) :
    Step P ops Q T a0 w0 o := by
  intro a w hb hs hl
  obtain ⟨v, hv, ht⟩ := has_of hl d hm
  rw [hT v w ht] at hv
  rw [if_pos (wanted_yes hg hd hv)]
  exact h a w hb hs hl
end
end Go.Proofs.Reg
