/-
  The law with a tail once more: the tail may write a slot that the head reads.
-/
import Derived.Test.YtnmooegegknmoaaDoorRegion
namespace Go.Proofs.Reg
open Go.RowKit

section
variable {P : Program} {ops : Array Oper} {Q : Exit → Act → World → Prop}

/-- The slots that the head writes. -/
def headD (ops : Array Oper) (n : Nat) : List Tmp := (ops.toList.take n).filterMap (·.dst)
/-- The slots that the head does not write, the rest of the frame. -/
def SameH (ops : Array Oper) (n : Nat) (a0 a : Act) : Prop := a.defers = a0.defers ∧ a.tmps.size = a0.tmps.size ∧ ∀ d, d ∉ headD ops n → a.tmps[d]? = a0.tmps[d]?
theorem headD_sub {n : Nat} {d : Tmp} (h : d ∈ headD ops n) : d ∈ dsts ops := by
  obtain ⟨o, ho, hd⟩ := List.mem_filterMap.1 h
  exact List.mem_filterMap.2 ⟨o, List.mem_of_mem_take ho, hd⟩
theorem SameH.same {n : Nat} {a0 a : Act} (h : SameH ops n a0 a) : Same ops a0 a := ⟨h.1, h.2.1, fun d hd => h.2.2 d fun h' => hd (headD_sub h')⟩
def closedH (ops : Array Oper) (n : Nat) (ins : List Tmp) : Bool :=
  ins.all (fun d => !(headD ops n).contains d) && (ops.toList.take n).all fun o => (o.looksAt ops).all fun d => ins.contains d || o.after.any fun e => Region.binds .any e && decide (e.on < n) && ((ops[e.on]?).bind (·.dst) == some d)
def fitsH (ops : Array Oper) (n m : Nat) : Bool := decide ((headD ops n).Nodup) && (headD ops n).all (· < m)

theorem headD_inj {n : Nat} (h : (headD ops n).Nodup) {i j : Nat} {o p : Oper} {d : Tmp} (hin : i < n) (hjn : j < n) (hi : ops[i]? = some o) (hj : ops[j]? = some p) (ho : o.dst = some d) (hp : p.dst = some d) : i = j :=
  dsts_inj_list (ops.toList.take n) h (by rw [List.getElem?_take, if_pos hin]; simpa using hi) (by rw [List.getElem?_take, if_pos hjn]; simpa using hj) ho hp

/-- What holds between two operations of the head. -/
def InvH (ops : Array Oper) (n : Nat) (T : Tmp → Value → World → Prop) (a0 : Act) (w0 : World) (listed : Array Bool) (a : Act) (w : World) : Prop :=
  Below w0.heap.size w0 w ∧ SameH ops n a0 a ∧ listed.size = ops.size ∧ ∀ j, j < n → listed.getD j false = true → Got ops T a w j

theorem invH_next {T : Tmp → Value → World → Prop} {a0 : Act} {w0 : World} {n : Nat} (hn : (headD ops n).Nodup) (hin : ∀ d ∈ headD ops n, d < a0.tmps.size) (mono : ∀ d v w w', T d v w → Below w.heap.size w w' → T d v w')
    {listed : Array Bool} {a : Act} {w : World} {i : Nat} {o : Oper} (hI : InvH ops n T a0 w0 listed a w) (hi : i < n) (ho : ops[i]? = some o) (v : Value) (w' : World) (hb : Below w.heap.size w w') (hv : ∀ d, o.dst = some d → T d v w') :
    InvH ops n T a0 w0 (listed.setIfInBounds i true) (a.put o.dst v) w' := by
  obtain ⟨hB, hS, hsz, hG⟩ := hI
  have hmem : o ∈ ops.toList.take n := by
    refine List.mem_of_getElem? (i := i) ?_
    rw [List.getElem?_take, if_pos hi]
    simpa using ho
  refine ⟨hB.trans (hb.mono hB.size), ?_, by simpa using hsz, ?_⟩
  · obtain ⟨s1, s2, s3⟩ := hS
    cases hd : o.dst with
    | none => exact ⟨s1, s2, s3⟩
    | some d =>
      have hdm : d ∈ headD ops n := List.mem_filterMap.2 ⟨o, hmem, hd⟩
      refine ⟨s1, by simpa [Act.put] using s2, fun d' hd' => ?_⟩
      have hne : d ≠ d' := fun e => hd' (e ▸ hdm)
      rw [← s3 d' hd']
      simp [Act.put, Array.getElem?_setIfInBounds_ne hne]
  · intro j hjn hj
    by_cases hij : i = j
    · subst hij
      unfold Got
      rw [ho]
      cases hd : o.dst with
      | none => simp [hd]
      | some d =>
        have hdm : d ∈ headD ops n := List.mem_filterMap.2 ⟨o, hmem, hd⟩
        have hlt' : d < a.tmps.size := by rw [hS.2.1]; exact hin d hdm
        simp only [hd]
        exact ⟨v, by simp [Act.put, hlt'], hv d hd⟩
    · have hj' : listed.getD j false = true := by rwa [getD_set_ne false hij] at hj
      have hg := hG j hjn hj'
      unfold Got at hg ⊢
      cases hp : ops[j]? with
      | none => trivial
      | some p =>
        rw [hp] at hg
        simp only at hg ⊢
        cases hpd : p.dst with
        | none => simp
        | some d' =>
          rw [hpd] at hg
          simp only at hg ⊢
          obtain ⟨u, hu, hT⟩ := hg
          refine ⟨u, ?_, mono _ _ _ _ hT hb⟩
          cases hd : o.dst with
          | none => exact hu
          | some d =>
            have hne : d ≠ d' := fun e => hij (headD_inj hn hi hjn ho hp hd (e ▸ hpd))
            simpa [Act.put, Array.getElem?_setIfInBounds_ne hne] using hu

theorem looksH {T : Tmp → Value → World → Prop} {a0 : Act} {w0 : World} {ins : List Tmp} {n : Nat} (hcl : closedH ops n ins = true) (hins : HasL T a0 w0 ins) (mono : ∀ d v w w', T d v w → Below w.heap.size w w' → T d v w')
    {listed : Array Bool} {a : Act} {w : World} {i : Nat} {o : Oper} (hI : InvH ops n T a0 w0 listed a w) (hi : i < n) (ho : ops[i]? = some o) (hall : ∀ e ∈ o.after, Region.binds .any e = true → listed.getD e.on false = true) : HasL T a w (o.looksAt ops) := by
  obtain ⟨hB, hS, hsz, hG⟩ := hI
  have hmem : o ∈ ops.toList.take n := by
    refine List.mem_of_getElem? (i := i) ?_
    rw [List.getElem?_take, if_pos hi]
    simpa using ho
  have hin1 : ∀ d ∈ ins, Has T a w d := fun d hd => by
    unfold closedH at hcl
    rw [Bool.and_eq_true, List.all_eq_true] at hcl
    have hnd : d ∉ headD ops n := by simpa using hcl.1 d hd
    obtain ⟨v, hv, hT⟩ := has_of hins d hd
    exact ⟨v, by rw [hS.2.2 d hnd]; exact hv, mono _ _ _ _ hT hB⟩
  refine hasL_of fun d hd => ?_
  unfold closedH at hcl
  rw [Bool.and_eq_true, List.all_eq_true, List.all_eq_true] at hcl
  have h := List.all_eq_true.1 (hcl.2 o hmem) d hd
  rcases Bool.or_eq_true_iff.1 h with h | h
  · exact hin1 d (by simpa using h)
  · obtain ⟨e, he, hb⟩ := Array.any_eq_true'.1 h
    simp only [Bool.and_eq_true, beq_iff_eq, decide_eq_true_eq] at hb
    have hg := hG e.on hb.1.2 (hall e he hb.1.1)
    unfold Got at hg
    cases hp : ops[e.on]? with
    | none => rw [hp] at hb; simp at hb
    | some p =>
      rw [hp] at hg hb
      simp only [Option.bind_some] at hb
      simp only [hb.2] at hg
      exact hg

theorem inv_runH {T : Tmp → Value → World → Prop} {a0 : Act} {w0 : World} {ins : List Tmp} {n : Nat} (ht : tailB ops n = true) (hcl : closedH ops n ins = true) (hins : HasL T a0 w0 ins) (hn : (headD ops n).Nodup) (hin : ∀ d ∈ headD ops n, d < a0.tmps.size)
    (mono : ∀ d v w w', T d v w → Below w.heap.size w w' → T d v w')
    (hstep : ∀ i o, i < n → ops[i]? = some o → Step P ops Q T a0 w0 o)
    (hdone : ∀ a w, InvH ops n T a0 w0 (headDone ops.size n) a w → wpList P ops Q (ops.toList.drop n) a w) :
    ∀ (fuel : Nat) (listed : Array Bool) (a : Act) (w : World), left2 n listed + (ops.size - n) ≤ fuel → InvH ops n T a0 w0 listed a w → HeadInv .any ops n listed → wpAny P .any ops Q fuel listed a w := by
  unfold tailB at ht
  simp only [Bool.and_eq_true, decide_eq_true_eq] at ht
  obtain ⟨⟨⟨⟨hlt, hfw⟩, hs⟩, hc⟩, hq⟩ := ht
  have fin : ∀ (fuel : Nat) (a : Act) (w : World), ops.size - n ≤ fuel → InvH ops n T a0 w0 (headDone ops.size n) a w → wpAny P .any ops Q fuel (headDone ops.size n) a w := by
    intro fuel a w hf hI
    have hl : (ops.toList.drop n).length = ops.size - n := by simp
    have h := wpAny_of_seq (md := .any) (Q' := Q) (ops.toList.drop n) n (headDone ops.size n) a w (fun j => by simp [List.getElem?_drop]) (by rw [hl]; exact hq) (hdone a w hI)
    rw [hl] at h
    exact wpAny_le hf h
  intro fuel
  induction fuel with
  | zero => intro listed a w hl; omega
  | succ fuel ih =>
    intro listed a w hl hI hH
    by_cases hall : ∀ i, i < n → i < ops.size → listed.getD i true = true
    · have e := headDone_of hH hall
      subst e
      exact fin _ _ _ (by omega) hI
    · have hex : ∃ i, i < n ∧ listed.getD i true = false := by
        refine Classical.byContradiction fun hno => hall fun i h1 _ => ?_
        cases hg : listed.getD i true with
        | true => rfl
        | false => exact absurd ⟨i, h1, hg⟩ hno
      obtain ⟨j, hj, hju⟩ := hex
      refine ⟨fun h0 => ?_, fun i hi => ?_⟩
      · exfalso
        have hr := all_listed hfw h0 j (by omega)
        rw [hju] at hr
        cases hr
      · obtain ⟨h0, o, ho, hwait⟩ := mem_ready.1 hi
        have hin' : i < n := Nat.lt_of_not_le fun h => tail_waits hs hc hlt hH _ j rfl hj hju i h hi
        have hlf := left2_set (n := n) h0 (by rw [hH.size]; omega) hin'
        have st := hstep i o hin' ho a w hI.1 hI.2.1.same (looksH hcl hins mono hI hin' ho hwait)
        have hH' := hH.set hi hin'
        have next : ∀ v w', Below w.heap.size w w' → (∀ d, o.dst = some d → T d v w') → wpAny P .any ops Q fuel (listed.setIfInBounds i true) (a.put o.dst v) w' := by
          intro v w' hb hv
          exact ih _ _ _ (by omega) (invH_next hn hin mono hI hin' ho v w' hb hv) hH'
        unfold wpOp
        rw [ho]
        simp only
        by_cases hw : Region.wanted o (yielded ops a.tmps) = true
        · rw [if_pos hw] at st ⊢
          refine .inl (Oper.wp_mono (fun a' w' ⟨v, e, hb, hv⟩ => ?_) st)
          subst e
          exact next v w' hb hv
        · rw [if_neg hw] at st ⊢
          exact next undef w (Below.refl _ _) st

/-- THE LAW WITH A TAIL that may write what the head reads. -/
theorem region_inv_head {id : Nat} {a0 : Act} {w0 : World} (n : Nat) (T : Tmp → Value → World → Prop) (ins : List Tmp) (hm : P.follows .mixedOrders = true) (hf : fitsH ops n a0.tmps.size = true)
    (ht : tailB ops n = true) (hcl : closedH ops n ins = true) (hins : HasL T a0 w0.drew ins)
    (mono : ∀ d v w w', T d v w → Below w.heap.size w w' → T d v w')
    (hstep : Steps P ops Q T a0 w0.drew (ops.toList.take n))
    (hdone : ∀ a w, Below w0.drew.heap.size w0.drew w → SameH ops n a0 a → (∀ d ∈ headD ops n, Has T a w d) → wpList P ops Q (ops.toList.drop n) a w) : (Code.region id ops true).wp P Q a0 w0 := by
  unfold fitsH at hf
  simp only [Bool.and_eq_true, decide_eq_true_eq, List.all_eq_true] at hf
  refine wp_region_any hm ?_
  have hinv : InvH ops n T a0 w0.drew (Array.replicate ops.size false) a0 w0.drew := by
    refine ⟨Below.refl _ _, ⟨rfl, rfl, fun _ _ => rfl⟩, by simp, fun j _ hj => ?_⟩
    exfalso
    by_cases h : j < ops.size
    · simp [Array.getD, h] at hj
    · simp [Array.getD, h] at hj
  have inv0 : HeadInv .any ops n (Array.replicate ops.size false) :=
    ⟨by simp, fun j oj _ hl => (by rw [getD_replicate_false] at hl; cases hl), fun t _ ht => getD_in (by simpa using ht) (getD_replicate_false _ _)⟩
  refine inv_runH ht hcl hins hf.1 hf.2 mono (fun i o hi ho => steps_at _ hstep o ?_) (fun a w hI => ?_) _ _ _ _ ?_ hinv inv0
  · have : (ops.toList.take n)[i]? = some o := by
      rw [List.getElem?_take, if_pos hi]
      simpa using ho
    exact List.mem_of_getElem? this
  · obtain ⟨hB, hS, hsz, hG⟩ := hI
    refine hdone a w hB hS (fun d hd => ?_)
    obtain ⟨o, ho, hd⟩ := List.mem_filterMap.1 hd
    obtain ⟨i, hi⟩ := List.getElem?_of_mem ho
    rw [List.getElem?_take] at hi
    by_cases hin : i < n
    · rw [if_pos hin] at hi
      have hi' : ops[i]? = some o := by simpa using hi
      have hlt : i < ops.size := (Array.getElem?_eq_some_iff.1 hi').1
      have hl : (headDone ops.size n).getD i false = true := by
        simp [headDone, Array.getD, hlt, hin]
      have hg := hG i hin hl
      unfold Got at hg
      simp only [hi', hd] at hg
      exact hg
    · rw [if_neg hin] at hi
      cases hi
  · have h : left2 n (Array.replicate ops.size false) ≤ n := by
      unfold left2
      exact Nat.le_trans (List.length_filter_le _ _) (by simp)
    unfold tailB at ht
    simp only [Bool.and_eq_true, decide_eq_true_eq] at ht
    omega

/-- The frame behind the head, written out. -/
theorem sameH_put {n : Nat} {a0 a : Act} (hs : SameH ops n a0 a) (vs : List (Tmp × Value)) (hv : AtL a vs) (hall : (headD ops n).all (fun d => vs.any fun p => p.1 == d) = true) :
    a = vs.foldl (fun a p => a.put (some p.1) p.2) a0 := by
  have hs' : Same ((ops.toList.take n).toArray) a0 a := ⟨hs.1, hs.2.1, fun d hd => hs.2.2 d (by simpa [dsts, headD] using hd)⟩
  exact same_put hs' vs (atL_of hv) (by simpa [dsts, headD] using hall)
end
end Go.Proofs.Reg
