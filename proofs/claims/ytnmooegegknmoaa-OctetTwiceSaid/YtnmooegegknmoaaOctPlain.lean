/-
  Plain laws of Prep and Fold: the program's way and the reference's come to the same; what has nothing too much stays.
-/
import Derived.Test.YtnmooegegknmoaaOctMath
namespace Go.Proofs.Oct

theorem prepRaw_snoc (t : List UInt8) (c : UInt8) : prepRaw (t ++ [c]) = prepStep (prepRaw t) c := by simp [prepRaw]
theorem prepStep_pos {b : List UInt8} (h : b = [] ∨ b.getLast? = some 32) : prepStep b 32 = b := by unfold prepStep; rw [if_pos ⟨rfl, h⟩]
theorem prepStep_neg {b : List UInt8} {c : UInt8} (h : ¬ (c = 32 ∧ (b = [] ∨ b.getLast? = some 32))) : prepStep b c = b ++ [c] := by unfold prepStep; rw [if_neg h]
theorem snoc_cases (l : List UInt8) : l = [] ∨ ∃ m c, l = m ++ [c] := by
  rcases List.eq_nil_or_concat l with h | ⟨m, c, h⟩
  · exact .inl h
  · exact .inr ⟨m, c, by simpa using h⟩
theorem snoc_ind {P : List UInt8 → Prop} (h0 : P []) (h1 : ∀ l c, P l → P (l ++ [c])) : ∀ l, P l := by
  have : ∀ n (l : List UInt8), l.length = n → P l := by
    intro n
    induction n with
    | zero => intro l hl; rw [List.eq_nil_of_length_eq_zero hl]; exact h0
    | succ n ih =>
      intro l hl
      rcases snoc_cases l with rfl | ⟨m, c, rfl⟩
      · simp at hl
      · exact h1 m c (ih m (by simpa using hl))
  exact fun l => this _ l rfl

theorem prepCut_blank (b : List UInt8) : prepCut (prepStep b 32) = prepCut b := by
  by_cases h : b = [] ∨ b.getLast? = some 32
  · rw [prepStep_pos h]
  · rw [prepStep_neg (fun ⟨_, h'⟩ => h h')]
    unfold prepCut
    rw [if_pos (by simp), List.dropLast_concat, if_neg (fun e => h (.inr e))]
theorem prep_behind (t : List UInt8) : prepCut (prepRaw (t ++ [32])) = prepCut (prepRaw t) := by rw [prepRaw_snoc, prepCut_blank]
theorem prep_ahead (t : List UInt8) : prepRaw (32 :: t) = prepRaw t := by
  show List.foldl prepStep (prepStep [] 32) t = _
  rfl

theorem prepRaw_idem (t : List UInt8) : prepRaw (prepRaw t) = prepRaw t := by
  induction t using snoc_ind with
  | h0 => rfl
  | h1 t c ih =>
    rw [prepRaw_snoc]
    by_cases h : c = 32 ∧ (prepRaw t = [] ∨ (prepRaw t).getLast? = some 32)
    · obtain ⟨rfl, h⟩ := h
      rw [prepStep_pos h, ih]
    · rw [prepStep_neg h, prepRaw_snoc, ih, prepStep_neg h]
theorem prepRaw_cut (b : List UInt8) (hb : prepRaw b = b) : prepRaw (prepCut b) = prepCut b ∧ prepCut (prepCut b) = prepCut b := by
  unfold prepCut
  by_cases h : b.getLast? = some 32
  · rw [if_pos h]
    rcases snoc_cases b with rfl | ⟨q, c, rfl⟩
    · simp at h
    · have : c = 32 := by simpa using h
      subst this
      rw [List.dropLast_concat]
      rw [prepRaw_snoc] at hb
      by_cases hq : prepRaw q = [] ∨ (prepRaw q).getLast? = some 32
      · rw [prepStep_pos hq] at hb
        have := prepRaw_length q
        rw [hb, List.length_append, List.length_singleton] at this
        omega
      · rw [prepStep_neg (fun ⟨_, h'⟩ => hq h')] at hb
        have e : prepRaw q = q := by simpa using hb
        rw [e] at hq
        exact ⟨e, if_neg (fun e => hq (.inr e))⟩
  · rw [if_neg h]
    exact ⟨hb, by rw [if_neg h]⟩

theorem prepRaw_mem (t : List UInt8) : ∀ x ∈ prepRaw t, x ∈ t := by
  induction t using snoc_ind with
  | h0 => intro x hx; exact hx
  | h1 t c ih =>
    intro x hx
    rw [prepRaw_snoc] at hx
    unfold prepStep at hx
    split at hx
    · exact List.mem_append_left _ (ih x hx)
    · rcases List.mem_append.1 hx with hx | hx
      · exact List.mem_append_left _ (ih x hx)
      · exact List.mem_append_right _ hx
theorem prepCut_mem (b : List UInt8) : ∀ x ∈ prepCut b, x ∈ b := by
  intro x hx
  unfold prepCut at hx
  split at hx
  · exact (List.dropLast_sublist b).subset hx
  · exact hx
theorem low_low (c : UInt8) : low (low c) = low c := by
  by_cases h : 65 ≤ c.toNat ∧ c.toNat ≤ 90
  · have e : (low c).toNat = c.toNat + 32 := by
      unfold low
      rw [if_pos h, UInt8.toNat_ofNat', Nat.mod_eq_of_lt (by omega)]
    have h2 : ¬ (65 ≤ (low c).toNat ∧ (low c).toNat ≤ 90) := by rw [e]; omega
    generalize low c = d at h2
    unfold low
    rw [if_neg h2]
  · have e : low c = c := by unfold low; rw [if_neg h]
    rw [e, e]
theorem fold_fold (l : List UInt8) : fold (fold l) = fold l := by
  unfold fold
  rw [List.map_map]
  exact List.map_congr_left fun c _ => low_low c
theorem fold_of_low (l : List UInt8) (h : ∀ x ∈ l, low x = x) : fold l = l := by
  unfold fold
  conv => rhs; rw [← List.map_id l]
  exact List.map_congr_left h
theorem fold_length (l : List UInt8) : (fold l).length = l.length := by simp [fold]
theorem fold_append (l m : List UInt8) : fold (l ++ m) = fold l ++ fold m := by simp [fold]

theorem prep_fold (l : List UInt8) : prep (fold l) = prep l := by unfold prep; rw [fold_fold]
theorem prep_prep (l : List UInt8) : prep (prep l) = prep l := by
  have h := prepRaw_cut (prepRaw (fold l)) (prepRaw_idem _)
  have e : fold (prep l) = prep l := fold_of_low _ fun x hx => by
    unfold prep at hx
    have := prepRaw_mem _ x (prepCut_mem _ x hx)
    unfold fold at this
    obtain ⟨c, _, rfl⟩ := List.mem_map.1 this
    exact low_low c
  have e2 : prep (prep l) = prepCut (prepRaw (prep l)) := by
    show prepCut (prepRaw (fold (prep l))) = _
    rw [e]
  rw [e2]
  unfold prep
  rw [h.1, h.2]
/-- Blanks at both ends. -/
def wide (l : List UInt8) : Nat → List UInt8
  | 0 => l
  | n + 1 => 32 :: (wide l n ++ [32])
theorem wide_length (l : List UInt8) (n : Nat) : (wide l n).length = l.length + 2 * n := by
  induction n with
  | zero => rfl
  | succ n ih =>
    simp only [wide, List.length_cons, List.length_append, List.length_nil, ih]
    omega
theorem prep_wide (l : List UInt8) (n : Nat) : prep (wide l n) = prep l := by
  induction n with
  | zero => rfl
  | succ n ih =>
    have e : fold (wide l (n + 1)) = 32 :: (fold (wide l n) ++ [32]) := by
      show fold (32 :: (wide l n ++ [32])) = _
      rw [show (32 :: (wide l n ++ [32])) = [32] ++ (wide l n ++ [32]) from rfl, fold_append, fold_append]
      rfl
    unfold prep at ih ⊢
    rw [e, prep_ahead, prep_behind, ih]

/-! The reference's way. -/
theorem anyNe_drop (t : List UInt8) (i j : Nat) (hij : i ≤ j) (h : anyNe (t.drop j) = true) : anyNe (t.drop i) = true := by
  unfold anyNe at h ⊢
  rw [List.any_eq_true] at h ⊢
  obtain ⟨x, hx, hc⟩ := h
  refine ⟨x, ?_, hc⟩
  have : t.drop j = (t.drop i).drop (j - i) := by rw [List.drop_drop]; congr 1; omega
  rw [this] at hx
  exact List.mem_of_mem_drop hx
/-- As long as something else than blanks is to come, the two go together; and the last that is kept is a blank where the last that came is. -/
theorem rp_raw (t : List UInt8) : ∀ i, i ≤ t.length → (∀ k, k < i → anyNe (t.drop k) = true) →
    rp t i = prepRaw (t.take i) ∧ (prepRaw (t.take i) ≠ [] → ((prepRaw (t.take i)).getLast? = some 32 ↔ t.getD (i - 1) 0 = 32)) := by
  intro i
  induction i with
  | zero => intro _ _; exact ⟨rfl, fun h => absurd rfl h⟩
  | succ i ih =>
    intro hi hk
    obtain ⟨h1, h2⟩ := ih (by omega) (fun k hk' => hk k (by omega))
    have hg : t.getD i 0 = t[i] := by
      rw [List.getD_eq_getElem?_getD, List.getElem?_eq_getElem (by omega)]
      rfl
    rw [List.take_succ_eq_append_getElem (by omega), prepRaw_snoc, Nat.add_sub_cancel, hg]
    have hr : rp t (i + 1) = rpStep t i (rp t i) := rfl
    rw [hr, h1]
    unfold rpStep
    rw [hk i (by omega), hg]
    simp only [Bool.true_eq_false, false_or]
    by_cases hc : t[i] = 32
    · rw [hc]
      by_cases hb : prepRaw (t.take i) = []
      · rw [if_pos ⟨rfl, .inl hb⟩, prepStep_pos (.inl hb)]
        exact ⟨rfl, fun h => absurd hb h⟩
      · by_cases hl : t.getD (i - 1) 0 = 32
        · have hl' := (h2 hb).2 hl
          rw [if_pos ⟨rfl, .inr hl⟩, prepStep_pos (.inr hl')]
          exact ⟨rfl, fun _ => ⟨fun _ => rfl, fun _ => hl'⟩⟩
        · have hl' : (prepRaw (t.take i)).getLast? ≠ some 32 := fun e => hl ((h2 hb).1 e)
          rw [if_neg (by rintro ⟨_, h | h⟩; exact hb h; exact hl h), prepStep_neg (by rintro ⟨_, h | h⟩; exact hb h; exact hl' h)]
          exact ⟨rfl, fun _ => by simp⟩
    · rw [if_neg (fun h => hc h.1), prepStep_neg (fun h => hc h.1)]
      exact ⟨rfl, fun _ => by simp⟩
theorem rp_rest (t : List UInt8) (m : Nat) (hm : anyNe (t.drop m) = false) : ∀ d, rp t (m + d) = rp t m := by
  intro d
  induction d with
  | zero => rfl
  | succ d ih =>
    show rpStep t (m + d) (rp t (m + d)) = _
    rw [ih]
    have : anyNe (t.drop (m + d)) = false := by
      cases h : anyNe (t.drop (m + d)) with
      | false => rfl
      | true => rw [anyNe_drop t m (m + d) (by omega) h] at hm; cases hm
    unfold rpStep
    rw [if_pos (.inl this)]
/-- What is behind the last that is no blank. -/
theorem all_blank (l : List UInt8) (h : anyNe l = false) (b : List UInt8) : prepCut (l.foldl prepStep b) = prepCut b := by
  induction l generalizing b with
  | nil => rfl
  | cons c l ih =>
    unfold anyNe at h
    rw [List.any_cons, Bool.or_eq_false_iff] at h
    have hc : c = 32 := by
      have := of_decide_eq_false h.1
      exact Classical.not_not.1 this
    subst hc
    rw [List.foldl_cons, ih h.2, prepCut_blank]
theorem refPrep_eq_from (t : List UInt8) : rp t t.length = prepCut (prepRaw t) := by
  -- the least m behind which there are blanks alone
  have key : ∀ n, n ≤ t.length → (∀ k, k < t.length - n → anyNe (t.drop k) = true) → rp t t.length = prepCut (prepRaw t) := by
    intro n
    induction n with
    | zero =>
      intro _ hk
      obtain ⟨h1, h2⟩ := rp_raw t t.length (Nat.le_refl _) (fun k hk' => hk k (by omega))
      rw [h1, List.take_length] at *
      unfold prepCut
      by_cases hn : prepRaw t = []
      · rw [hn]; rfl
      · rw [if_neg]
        intro e
        have h32 := (h2 hn).1 e
        have hlen : 1 ≤ t.length := by
          rcases Nat.eq_zero_or_pos t.length with h | h
          · rw [List.eq_nil_of_length_eq_zero h] at hn; exact absurd rfl hn
          · exact h
        have := hk (t.length - 1) (by omega)
        have e2 : t.drop (t.length - 1) = [t[t.length - 1]] := by
          rw [List.drop_eq_getElem_cons (by omega)]
          congr 1
          exact List.drop_eq_nil_of_le (by omega)
        rw [e2] at this
        rw [List.getD_eq_getElem?_getD, List.getElem?_eq_getElem (by omega)] at h32
        simp only [Option.getD_some] at h32
        rw [h32] at this
        simp [anyNe] at this
    | succ n ih =>
      intro hn hk
      by_cases h : anyNe (t.drop (t.length - (n + 1))) = true
      · refine ih (by omega) (fun k hk' => ?_)
        by_cases e : k = t.length - (n + 1)
        · rw [e]; exact h
        · exact hk k (by omega)
      · have h := Bool.eq_false_iff.2 h
        generalize hm : t.length - (n + 1) = m at h hk
        obtain ⟨h1, h2⟩ := rp_raw t m (by omega) hk
        have hr := rp_rest t m h (t.length - m)
        rw [show m + (t.length - m) = t.length from by omega] at hr
        have hp : prepRaw t = (t.drop m).foldl prepStep (prepRaw (t.take m)) := by
          unfold prepRaw
          rw [← List.foldl_append, List.take_append_drop]
        rw [hr, h1, hp, all_blank _ h]
        unfold prepCut
        by_cases hz : prepRaw (t.take m) = []
        · rw [hz]; rfl
        · rw [if_neg]
          intro e
          have h32 := (h2 hz).1 e
          have hlen : 1 ≤ m := by
            rcases Nat.eq_zero_or_pos m with h | h
            · rw [h] at hz; exact absurd rfl hz
            · exact h
          have h3 := hk (m - 1) (by omega)
          have e2 : t.drop (m - 1) = t[m - 1] :: t.drop m := by
            rw [List.drop_eq_getElem_cons (by omega)]
            congr 2
            omega
          rw [e2] at h3
          rw [List.getD_eq_getElem?_getD, List.getElem?_eq_getElem (by omega)] at h32
          simp only [Option.getD_some] at h32
          unfold anyNe at h3 h
          rw [List.any_cons, h, h32] at h3
          simp at h3
  exact key t.length (Nat.le_refl _) (fun k hk => by omega)
theorem refPrep_eq (l : List UInt8) : refPrep l = prep l := by
  unfold refPrep prep
  rw [← fold_length l, refPrep_eq_from]
end Go.Proofs.Oct
