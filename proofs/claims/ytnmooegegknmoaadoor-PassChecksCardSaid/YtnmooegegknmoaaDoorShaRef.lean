/-
  The reference's wide, root, cube and primes.
-/
import Derived.Test.YtnmooegegknmoaaDoorShaConst
import Derived.Test.YtnmooegegknmoaaDoorShaRound
import Derived.WalkLawsBesides
import Derived.Outline
namespace Go.Proofs.YtnmooegegknmoaaDoor
open Go.RowKit Go.Proofs.Sha

theorem prod_le (x y : Nat) (hx : x < 4294967296) (hy : y < 4294967296) : x * y ≤ 18446744065119617025 := Nat.mul_le_mul (Nat.le_of_lt_succ hx) (Nat.le_of_lt_succ hy)
theorem wrapN (x : Nat) (h : x < 18446744073709551616) : IntKind.u64.wrap ((x : Nat) : Int) = ((x : Nat) : Int) := by
  rw [IntKind.wrap_u64]
  omega
theorem tdivN (x : Nat) : ((x : Nat) : Int).tdiv 4294967296 = ((x / 4294967296 : Nat) : Int) := by
  rw [Int.tdiv_eq_ediv_of_nonneg (by omega)]
  omega
theorem tmodN (x : Nat) : ((x : Nat) : Int).tmod 4294967296 = ((x % 4294967296 : Nat) : Int) := by
  rw [Int.tmod_eq_emod_of_nonneg (by omega)]
  omega
/-- The halves' products, as numbers. -/
theorem wide_low (al bl : Nat) (h1 : al < 4294967296) (h2 : bl < 4294967296) : IntKind.u64.wrap (((al : Nat) : Int) * ((bl : Nat) : Int)) = ((al * bl : Nat) : Int) := by
  rw [← Int.natCast_mul]
  have := prod_le al bl h1 h2
  exact wrapN _ (by omega)
theorem wide_mid (ah bl low : Nat) (h1 : ah < 4294967296) (h2 : bl < 4294967296) (h3 : low < 18446744073709551616) : IntKind.u64.wrap (IntKind.u64.wrap (((ah : Nat) : Int) * ((bl : Nat) : Int)) + IntKind.u64.wrap (((low : Nat) : Int).tdiv 4294967296)) = ((ah * bl + low / 4294967296 : Nat) : Int) := by
  have := prod_le ah bl h1 h2
  rw [wide_low _ _ h1 h2, tdivN, wrapN _ (by omega), ← Int.natCast_add, wrapN _ (by omega)]
theorem wide_more (al bh mid : Nat) (h1 : al < 4294967296) (h2 : bh < 4294967296) : IntKind.u64.wrap (IntKind.u64.wrap (((al : Nat) : Int) * ((bh : Nat) : Int)) + ((mid : Nat) : Int).tmod 4294967296) = ((al * bh + mid % 4294967296 : Nat) : Int) := by
  have := prod_le al bh h1 h2
  rw [wide_low _ _ h1 h2, tmodN, ← Int.natCast_add, wrapN _ (by omega)]
theorem wide_hi (ah bh mid more : Nat) (h1 : ah < 4294967296) (h2 : bh < 4294967296) (h3 : mid < 18446744073709551616) (h4 : more < 18446744073709551616) :
    IntKind.u64.wrap (IntKind.u64.wrap (IntKind.u64.wrap (((ah : Nat) : Int) * ((bh : Nat) : Int)) + IntKind.u64.wrap (((mid : Nat) : Int).tdiv 4294967296)) + IntKind.u64.wrap (((more : Nat) : Int).tdiv 4294967296)) = ((ah * bh + mid / 4294967296 + more / 4294967296 : Nat) : Int) := by
  have := prod_le ah bh h1 h2
  rw [wide_mid _ _ _ h1 h2 h3, tdivN, wrapN (more / 4294967296) (by omega), ← Int.natCast_add, wrapN _ (by omega)]
theorem wide_lo (more low : Nat) : IntKind.u64.wrap (IntKind.u64.wrap (((more : Nat) : Int) * 4294967296) + ((low : Nat) : Int).tmod 4294967296) = (((more * 4294967296 + low % 4294967296) % 18446744073709551616 : Nat) : Int) := by
  rw [tmodN]
  simp only [IntKind.wrap_u64]
  omega
theorem wideLow_lt (a b : Nat) : wideLow a b < 18446744073709551616 := by
  have := prod_le (a % 4294967296) (b % 4294967296) (Nat.mod_lt _ (by decide)) (Nat.mod_lt _ (by decide))
  unfold wideLow
  omega
theorem wideMid_lt (a b : Nat) (ha : a < 18446744073709551616) : wideMid a b < 18446744073709551616 := by
  have := prod_le (a / 4294967296) (b % 4294967296) (by omega) (Nat.mod_lt _ (by decide))
  have := wideLow_lt a b
  unfold wideMid
  omega
theorem wideMore_lt (a b : Nat) (hb : b < 18446744073709551616) : wideMore a b < 18446744073709551616 := by
  have := prod_le (a % 4294967296) (b / 4294967296) (Nat.mod_lt _ (by decide)) (by omega)
  unfold wideMore
  omega
theorem wideHi_lt (a b : Nat) (ha : a < 18446744073709551616) (hb : b < 18446744073709551616) : wideHi a b < 18446744073709551616 := by
  have := prod_le (a / 4294967296) (b / 4294967296) (by omega) (by omega)
  have := wideMid_lt a b ha
  have := wideMore_lt a b hb
  unfold wideHi
  omega
theorem wideLo_lt (a b : Nat) : wideLo a b < 18446744073709551616 := Nat.mod_lt _ (by decide)

set_option maxHeartbeats 400000 in
theorem wide_any (a b : Nat) (w : World) (ha : a < 18446744073709551616) (hb : b < 18446744073709551616) :
    Calls Tryd.prog 41 #[.int .u64 (a : Nat), .int .u64 (b : Nat)] w fun e w' => e = .returned (.tuple #[.int .u64 ((wideHi a b : Nat) : Int), .int .u64 ((wideLo a b : Nat) : Int)]) ∧ w = w' := by
  have a0 : (0 : Int) ≤ (a : Int) := by omega
  have b0 : (0 : Int) ≤ (b : Int) := by omega
  go_enter Tryd.func41, Tryd.ntmps41
  go_wp2_with fail
  go_ret2
  have c1 : (a : Int) % 4294967296 = ((a % 4294967296 : Nat) : Int) := by omega
  have c2 : (a : Int) / 4294967296 = ((a / 4294967296 : Nat) : Int) := by omega
  have c3 : (b : Int) % 4294967296 = ((b % 4294967296 : Nat) : Int) := by omega
  have c4 : (b : Int) / 4294967296 = ((b / 4294967296 : Nat) : Int) := by omega
  have l1 : a % 4294967296 < 4294967296 := Nat.mod_lt _ (by decide)
  have l2 : a / 4294967296 < 4294967296 := by omega
  have l3 : b % 4294967296 < 4294967296 := Nat.mod_lt _ (by decide)
  have l4 : b / 4294967296 < 4294967296 := by omega
  have g1 := wideLow_lt a b
  have g2 := wideMid_lt a b ha
  have g3 := wideMore_lt a b hb
  have k1 : IntKind.u64.wrap (((a % 4294967296 : Nat) : Int) * ((b % 4294967296 : Nat) : Int)) = ((wideLow a b : Nat) : Int) := wide_low _ _ l1 l3
  have k2 := wide_mid (a / 4294967296) (b % 4294967296) (wideLow a b) l2 l3 g1
  have k3 := wide_more (a % 4294967296) (b / 4294967296) (wideMid a b) l1 l4
  have k4 := wide_hi (a / 4294967296) (b / 4294967296) (wideMid a b) (wideMore a b) l2 l4 g2 g3
  have k5 := wide_lo (wideMore a b) (wideLow a b)
  refine ⟨?_, rfl⟩
  have hi : ∀ x y x' y' : Int, x = x' → y = y' → Ending.returned (.tuple #[.int .u64 x, .int .u64 y]) = .returned (.tuple #[.int .u64 x', .int .u64 y']) := fun _ _ _ _ e1 e2 => by rw [e1, e2]
  refine hi _ _ _ _ ?_ ?_
  · rw [c1, c2, c3, c4, k1, k2, show a / 4294967296 * (b % 4294967296) + wideLow a b / 4294967296 = wideMid a b from rfl, k3, show a % 4294967296 * (b / 4294967296) + wideMid a b % 4294967296 = wideMore a b from rfl, k4]
    rfl
  · rw [c1, c2, c3, c4, k1, k2, show a / 4294967296 * (b % 4294967296) + wideLow a b / 4294967296 = wideMid a b from rfl, k3, show a % 4294967296 * (b / 4294967296) + wideMid a b % 4294967296 = wideMore a b from rfl, k5]
    rfl

theorem wide_sq (z1 z2 : Int) (y1 y2 : Nat) (w : World) (h1 : z1 = (y1 : Int)) (h2 : z2 = (y2 : Int)) (hy1 : y1 < 18446744073709551616) (hy2 : y2 < 18446744073709551616) :
    Calls Tryd.prog 41 #[.int .u64 z1, .int .u64 z2] w fun e w' => e = .returned (.tuple #[.int .u64 ((wideHi y1 y2 : Nat) : Int), .int .u64 ((wideLo y1 y2 : Nat) : Int)]) ∧ w = w' := by
  subst h1 h2
  exact wide_any y1 y2 w hy1 hy2
theorem rootTo_le (p k : Nat) : rootTo p k ≤ k * 68719476736 := by
  induction k with
  | zero => exact Nat.le_refl _
  | succ k ih =>
    have h : 68719476736 / 2 ^ k ≤ 68719476736 := Nat.div_le_self _ _
    have e : rootTo p (k + 1) = if fitsRoot p (rootTo p k + 68719476736 / 2 ^ k) then rootTo p k + 68719476736 / 2 ^ k else rootTo p k := rfl
    rw [e, Nat.succ_mul]
    generalize 68719476736 / 2 ^ k = d at h ⊢
    generalize rootTo p k = x at ih ⊢
    generalize k * 68719476736 = y at ih ⊢
    by_cases c : fitsRoot p (x + d) = true
    · rw [if_pos c]
      exact Nat.add_le_add ih h
    · rw [if_neg c]
      exact Nat.le_trans ih (Nat.le_add_right _ _)
theorem cubeTo_le (p k : Nat) : cubeTo p k ≤ k * 34359738368 := by
  induction k with
  | zero => exact Nat.le_refl _
  | succ k ih =>
    have h : 34359738368 / 2 ^ k ≤ 34359738368 := Nat.div_le_self _ _
    have e : cubeTo p (k + 1) = if fitsCube p (cubeTo p k + 34359738368 / 2 ^ k) then cubeTo p k + 34359738368 / 2 ^ k else cubeTo p k := rfl
    rw [e, Nat.succ_mul]
    generalize 34359738368 / 2 ^ k = d at h ⊢
    generalize cubeTo p k = x at ih ⊢
    generalize k * 34359738368 = y at ih ⊢
    by_cases c : fitsCube p (x + d) = true
    · rw [if_pos c]
      exact Nat.add_le_add ih h
    · rw [if_neg c]
      exact Nat.le_trans ih (Nat.le_add_right _ _)
theorem half_pow (n k : Nat) : n / 2 ^ k / 2 = n / 2 ^ (k + 1) := by rw [Nat.div_div_eq_div_mul, Nat.pow_succ]
theorem pow_pos36 : ∀ k, k < 37 → 0 < 68719476736 / 2 ^ k := by decide
theorem pow_pos35 : ∀ k, k < 36 → 0 < 34359738368 / 2 ^ k := by decide
theorem val_u64 {a b : Nat} (h : a = b) : Value.int .u64 ((a : Nat) : Int) = .int .u64 ((b : Nat) : Int) := by rw [h]

set_option maxHeartbeats 1000000 in
theorem root_any (p : Nat) (w : World) :
    Calls Tryd.prog 29 #[.int .u64 (p : Nat)] w fun e w' => e = .returned (.int .u32 ((rootTo p 37 % 4294967296 : Nat) : Int)) ∧ w = w' := by
  go_enter Tryd.func29, Tryd.ntmps29
  go_wp2_with fail
  go_loop [3, 4, 5, 6] (fun x b _ _ => ∃ k : Nat, k ≤ 37 ∧ x = .int .u64 ((rootTo p k : Nat) : Int) ∧ b = .int .u64 ((68719476736 / 2 ^ k : Nat) : Int)) (fun _ b _ _ => (intOf b).toNat)
  case atStart => exact ⟨0, Nat.zero_le _, rfl, rfl⟩
  case round =>
    obtain ⟨k, hk, rfl, rfl⟩ := hrel
    have hx := rootTo_le p k
    by_cases hlt : k < 37
    · have hb0 := pow_pos36 k hlt
      have hb1 : 68719476736 / 2 ^ k ≤ 68719476736 := Nat.div_le_self _ _
      have hn := Lib.hid (half_pow 68719476736 k)
      have hr := Lib.hid (show rootTo p (k + 1) = if fitsRoot p (rootTo p k + 68719476736 / 2 ^ k) then rootTo p k + 68719476736 / 2 ^ k else rootTo p k from rfl)
      generalize 68719476736 / 2 ^ k = bt at hb0 hb1 hn hr ⊢
      generalize rootTo p k = x at hx hr ⊢
      have hx2 : x ≤ 2542620639232 := by omega
      have q0 : (0 : Int) < (bt : Int) := by omega
      have q1 : (bt : Int) ≤ 68719476736 := by omega
      have q2 : (x : Int) ≤ 2542620639232 := by omega
      have q3 : (0 : Int) ≤ (x : Int) := by omega
      unfold fitsRoot at hr
      generalize hH : wideHi (x + bt) (x + bt) = H at hr
      generalize hLo : wideLo (x + bt) (x + bt) = Lo at hr
      have hHL := Lib.hid (And.intro hH hLo)
      clear hH hLo hx
      go_wp2_with fail
      refine (wide_sq _ _ (x + bt) (x + bt) _ (Int.natCast_add _ _).symm (Int.natCast_add _ _).symm (by omega) (by omega)).mono ?_
      rintro e w' ⟨rfl, rfl⟩
      rw [hHL.out.1, hHL.out.2]
      by_cases h1 : H < p
      · have t1 : (H : Int) < (p : Int) := by omega
        have hr2 := Lib.hid (show rootTo p (k + 1) = x + bt by rw [hr.out]; simp [h1])
        clear hr
        go_wp2_with fail
        go_round
        case rel => exact ⟨k + 1, by omega, by rw [hr2.out, Int.natCast_add], by rw [← hn.out]; exact val_u64 rfl⟩
        case measure => simp [intOf]; omega
      · have t1 : ¬ (H : Int) < (p : Int) := by omega
        by_cases h2 : H = p
        · have t2 : ((H : Int) == (p : Int)) = true := by simp; omega
          by_cases h3 : Lo = 0
          · have t3 : ((Lo : Int) == 0) = true := by simpa using h3
            have hr2 := Lib.hid (show rootTo p (k + 1) = x + bt by rw [hr.out]; simp [h2, h3])
            clear hr h2 h3
            go_wp2_with fail
            go_round
            case rel => exact ⟨k + 1, by omega, by rw [hr2.out, Int.natCast_add], by rw [← hn.out]; exact val_u64 rfl⟩
            case measure => simp [intOf]; omega
          · have t3 : ((Lo : Int) == 0) = false := by simpa using h3
            have hr2 := Lib.hid (show rootTo p (k + 1) = x by rw [hr.out]; simp [h2, h3])
            clear hr h2 h3
            go_wp2_with fail
            go_round
            case rel => exact ⟨k + 1, by omega, by rw [hr2.out], by rw [← hn.out]; exact val_u64 rfl⟩
            case measure => simp [intOf]; omega
        · have t2 : ((H : Int) == (p : Int)) = false := by simp; omega
          have hr2 := Lib.hid (show rootTo p (k + 1) = x by rw [hr.out]; simp [h1, h2])
          clear hr h2
          go_wp2_with fail
          go_round
          case rel => exact ⟨k + 1, by omega, by rw [hr2.out], by rw [← hn.out]; exact val_u64 rfl⟩
          case measure => simp [intOf]; omega
    · obtain rfl : k = 37 := by omega
      go_wp2_with fail
      go_ret
      exact ⟨rfl, rfl⟩

theorem cube_c (H y A : Nat) : IntKind.u64.wrap (IntKind.u64.wrap (((H : Nat) : Int) * ((y : Nat) : Int)) + ((A : Nat) : Int)) = (((H * y + A) % 18446744073709551616 : Nat) : Int) := by
  rw [← Int.natCast_mul]
  generalize H * y = z
  simp only [IntKind.wrap_u64]
  omega

set_option maxHeartbeats 1000000 in
theorem cube_any (p : Nat) (w : World) (hp : p < 65536) :
    Calls Tryd.prog 30 #[.int .u64 (p : Nat)] w fun e w' => e = .returned (.int .u32 ((cubeTo p 36 % 4294967296 : Nat) : Int)) ∧ w = w' := by
  have p0 : (p : Int) < 65536 := by omega
  have p1 : (0 : Int) ≤ (p : Int) := by omega
  obtain ⟨P, hP⟩ : ∃ P, p * 4294967296 = P := ⟨_, rfl⟩
  have eP : (p : Int) * 4294967296 = (P : Int) := by omega
  have HP := Lib.hid hP
  clear hP
  go_enter Tryd.func30, Tryd.ntmps30
  go_wp2_with fail
  go_loop [3, 4, 5, 6, 7, 8, 9, 10] (fun x b _ _ _ _ _ _ => ∃ k : Nat, k ≤ 36 ∧ x = .int .u64 ((cubeTo p k : Nat) : Int) ∧ b = .int .u64 ((34359738368 / 2 ^ k : Nat) : Int)) (fun _ b _ _ _ _ _ _ => (intOf b).toNat)
  case atStart => exact ⟨0, Nat.zero_le _, rfl, rfl⟩
  case round =>
    obtain ⟨k, hk, rfl, rfl⟩ := hrel
    have hx := cubeTo_le p k
    by_cases hlt : k < 36
    · have hb0 := pow_pos35 k hlt
      have hb1 : 34359738368 / 2 ^ k ≤ 34359738368 := Nat.div_le_self _ _
      have hn := Lib.hid (half_pow 34359738368 k)
      have hr := Lib.hid (show cubeTo p (k + 1) = if fitsCube p (cubeTo p k + 34359738368 / 2 ^ k) then cubeTo p k + 34359738368 / 2 ^ k else cubeTo p k from rfl)
      generalize 34359738368 / 2 ^ k = bt at hb0 hb1 hn hr ⊢
      generalize cubeTo p k = x at hx hr ⊢
      have hx2 : x ≤ 1236950581248 := by omega
      obtain ⟨y, hy⟩ : ∃ y, x + bt = y := ⟨_, rfl⟩
      have hyl : y < 18446744073709551616 := by omega
      have q0 : (0 : Int) < (bt : Int) := by omega
      have q1 : (bt : Int) ≤ 34359738368 := by omega
      have q2 : (x : Int) ≤ 1236950581248 := by omega
      have q3 : (0 : Int) ≤ (x : Int) := by omega
      have ey : (x : Int) + (bt : Int) = (y : Int) := by omega
      rw [hy] at hr
      unfold fitsCube cubeC at hr
      rw [HP.out] at hr
      generalize hH : wideHi y y = H at hr
      generalize hLo : wideLo y y = Lo at hr
      generalize hA : wideHi Lo y = A at hr
      generalize hBv : wideLo Lo y = Bv at hr
      have hLl : Lo < 18446744073709551616 := by rw [← hLo]; exact wideLo_lt _ _
      have hHL := Lib.hid (And.intro hH (And.intro hLo (And.intro hA hBv)))
      have hC := cube_c H y A
      generalize (H * y + A) % 18446744073709551616 = C at hr hC
      have HY := Lib.hid hy
      clear hH hLo hA hBv hx hy
      go_wp2_with fail
      refine (wide_sq _ _ y y _ rfl rfl hyl hyl).mono ?_
      rintro e w' ⟨rfl, rfl⟩
      rw [hHL.out.1, hHL.out.2.1]
      go_wp2_with fail
      refine (wide_sq _ _ Lo y _ rfl rfl hLl hyl).mono ?_
      rintro e w' ⟨rfl, rfl⟩
      rw [hHL.out.2.2.1, hHL.out.2.2.2]
      by_cases h1 : C < P
      · have t1 : (C : Int) < (P : Int) := by omega
        have hr2 := Lib.hid (show cubeTo p (k + 1) = y by rw [hr.out]; simp [h1])
        clear hr
        go_wp2_with fail
        go_round
        case rel => exact ⟨k + 1, by omega, by rw [hr2.out], by rw [← hn.out]; exact val_u64 rfl⟩
        case measure => simp [intOf]; omega
      · have t1 : ¬ (C : Int) < (P : Int) := by omega
        by_cases h2 : C = P
        · have t2 : ((C : Int) == (P : Int)) = true := by simp; omega
          by_cases h3 : Bv = 0
          · have t3 : ((Bv : Int) == 0) = true := by simp; omega
            have hr2 := Lib.hid (show cubeTo p (k + 1) = y by rw [hr.out]; simp [h2, h3])
            clear hr h2 h3
            go_wp2_with fail
            go_round
            case rel => exact ⟨k + 1, by omega, by rw [hr2.out], by rw [← hn.out]; exact val_u64 rfl⟩
            case measure => simp [intOf]; omega
          · have t3 : ((Bv : Int) == 0) = false := by simp; omega
            have hr2 := Lib.hid (show cubeTo p (k + 1) = x by rw [hr.out]; simp [h2, h3])
            clear hr h2 h3
            go_wp2_with fail
            go_round
            case rel => exact ⟨k + 1, by omega, by rw [hr2.out], by rw [← hn.out]; exact val_u64 rfl⟩
            case measure => simp [intOf]; omega
        · have t2 : ((C : Int) == (P : Int)) = false := by simp; omega
          have hr2 := Lib.hid (show cubeTo p (k + 1) = x by rw [hr.out]; simp [h1, h2])
          clear hr h2
          go_wp2_with fail
          go_round
          case rel => exact ⟨k + 1, by omega, by rw [hr2.out], by rw [← hn.out]; exact val_u64 rfl⟩
          case measure => simp [intOf]; omega
    · obtain rfl : k = 36 := by omega
      go_wp2_with fail
      go_ret
      exact ⟨rfl, rfl⟩
end Go.Proofs.YtnmooegegknmoaaDoor
