/-
  The statement ShaStates.
-/
import Derived.Test.YtnmooegegknmoaaDoorShaJoin
import Derived.Test.YtnmooegegknmoaaDoorShaRefSum
import Derived.Deep.Slices
import Derived.ProofKit
import Derived.SliceStrings
namespace Go.Proofs.YtnmooegegknmoaaDoor
open Go.RowKit Go.Proofs.Sha Go.Proofs.Buf

/-- A slice of slices of texts. -/
def Rows2 (w : World) (v : Value) (pss : List (List ByteArray)) : Prop :=
  ∃ A cap, v = .slice A pss.length cap ∧ pss.length ≤ maxLen ∧ ∀ i (hi : i < pss.length), ∃ wb wo, A = some ⟨wb, wo, none⟩ ∧ wb < w.heap.size ∧ ∃ pv, w.cell? ⟨wb, wo + i, none⟩ = some pv ∧ Parts w (fun b => b < w.heap.size) pv pss[i] ∧ pss[i].length ≤ maxLen ∧ ∀ s ∈ pss[i], s.size ≤ maxLen
/-- A slice of bools. -/
def Bools (w : World) (v : Value) (bs : List Bool) : Prop :=
  ∃ A cap, v = .slice A bs.length cap ∧ bs.length ≤ maxLen ∧ ∀ i (hi : i < bs.length), ∃ wb wo, A = some ⟨wb, wo, none⟩ ∧ wb < w.heap.size ∧ w.cell? ⟨wb, wo + i, none⟩ = some (.bool bs[i])

section
variable {H : Type} {enc : TypeId × Value → H} {P : Program} {w : World} {base : Nat} {held : Bool} {r : Reach} {b0 : Nat}
open Go.ChangeShapes Go.WideShapes in
theorem addr_plain {a : Addr} {u u0 : Value} {i : Nat} (h0 : w.cell? (a.add 0) = some u0) (h : w.cell? (a.add i) = some u) : ∃ b o, a = ⟨b, o, none⟩ ∧ b < w.heap.size ∧ w.cell? ⟨b, o + i, none⟩ = some u := by
  obtain ⟨b, o, spot⟩ := a
  have hspot : spot = none := by simpa [Addr.add] using World.cell?_spot h0
  subst hspot
  have ha : (⟨b, o, none⟩ : Addr).add i = ⟨b, o + i, none⟩ := by unfold Addr.add; split <;> simp_all
  rw [ha] at h
  exact ⟨b, o, rfl, World.block_lt_of_cell? _ _ h, h⟩
open Go.ChangeShapes Go.WideShapes in
theorem bools_open {t e : TypeId} {v : Value} {d : DataW H} {p : List MemPlace} (ht : P.underlying t = some (.slice e)) (he : P.underlying e = some .bool) (hE : P.cellsOf e = 1)
    (hv : Value.okWide P w r b0 t v) (h : DataW.Trod enc P w base (fun _ => true) held t v d p) : ∃ bs, Bools w v bs := by
  obtain ⟨a0, len0, cap0, rfl⟩ := okWide_slice ht hv
  obtain ⟨fuel, hf⟩ := h
  rcases Deep.open_slice1 ht hE hf with ⟨hcs, _⟩ | ⟨a, len, cap, m, n, V, D, Pl, hcs, _, hl, hm, hmm, _, hx⟩
  · simp [Value.cells] at hcs
    obtain ⟨rfl, rfl, rfl⟩ := hcs
    exact ⟨[], _, _, rfl, Nat.zero_le _, fun i hi => absurd hi (Nat.not_lt_zero _)⟩
  · simp [Value.cells] at hcs
    obtain ⟨ea, el, ec⟩ := hcs
    subst ea
    rw [el, ec]
    clear el ec
    have hlm : len ≤ m := by rw [hmm]; split <;> omega
    have hb : ∀ i, i < len → ∃ b : Bool, w.cell? (a.add i) = some (.bool b) := fun i hi => by
      obtain ⟨h1, h2⟩ := hx i (by omega)
      obtain ⟨b, hb1, _⟩ := DataW.trod_bool he h2
      simp at hb1
      rw [hb1] at h1
      exact ⟨b, h1⟩
    obtain ⟨f, hf⟩ := Deep.choose_lt hb
    refine ⟨(List.range len).map f, some a, cap, by simp, by simp; omega, fun i hi => ?_⟩
    have hi' : i < len := by simpa using hi
    obtain ⟨b, o, ha, hlt, hcell⟩ := addr_plain (hf 0 (by omega)) (hf i hi')
    exact ⟨b, o, by rw [ha], hlt, by rw [hcell]; simp⟩
open Go.ChangeShapes Go.WideShapes in
theorem strss_open {t e s : TypeId} {v : Value} {d : DataW H} {p : List MemPlace} (ht : P.underlying t = some (.slice e)) (he : P.underlying e = some (.slice s)) (hs : P.underlying s = some .string) (hE : P.cellsOf e = 1) (hS : P.cellsOf s = 1)
    (hv : Value.okWide P w r b0 t v) (h : DataW.Trod enc P w base (fun _ => true) held t v d p) : ∃ pss, Rows2 w v pss := by
  obtain ⟨a0, len0, cap0, rfl⟩ := okWide_slice ht hv
  obtain ⟨fuel, hf⟩ := h
  rcases Deep.open_slice1 ht hE hf with ⟨hcs, _⟩ | ⟨a, len, cap, m, n, V, D, Pl, hcs, _, hl, hm, hmm, _, hx⟩
  · simp [Value.cells] at hcs
    obtain ⟨rfl, rfl, rfl⟩ := hcs
    exact ⟨[], _, _, rfl, Nat.zero_le _, fun i hi => absurd hi (Nat.not_lt_zero _)⟩
  · simp [Value.cells] at hcs
    obtain ⟨ea, el, ec⟩ := hcs
    subst ea
    rw [el, ec]
    clear el ec
    have hlm : len ≤ m := by rw [hmm]; split <;> omega
    have hb : ∀ i, i < len → ∃ ps : List ByteArray, ∃ pv, w.cell? (a.add i) = some pv ∧ Parts w (fun _ => True) pv ps ∧ ps.length ≤ maxLen ∧ ∀ s ∈ ps, s.size ≤ maxLen := fun i hi => by
      obtain ⟨h1, h2⟩ := hx i (by omega)
      rcases open_strings he hs hS h2 with ⟨hcs, _⟩ | ⟨x, l, c, ss, hcs, _, hl, hm, hz, _, hcell, hws⟩
      · simp at hcs
        rw [hcs] at h1
        exact ⟨[], _, h1, Parts.nil _ _ _ _, by simp, by simp⟩
      · simp at hcs
        rw [hcs] at h1
        exact ⟨_, _, h1, parts_open hl hm (by simpa using hz) hcell hws⟩
    obtain ⟨f, hf⟩ := Deep.choose_lt hb
    refine ⟨(List.range len).map f, some a, cap, by simp, by simp; omega, fun i hi => ?_⟩
    have hi' : i < len := by simpa using hi
    obtain ⟨pv, h1, h2, h3⟩ := hf i hi'
    obtain ⟨pv0, h10, _⟩ := hf 0 (by omega)
    obtain ⟨b, o, ha, hlt, hcell⟩ := addr_plain h10 h1
    have e : ((List.range len).map f)[i] = f i := by simp
    rw [e]
    exact ⟨b, o, by rw [ha], hlt, pv, hcell, h2.mono (fun _ hb _ => hb), h3⟩
end

/-- What the loop over the writes keeps. -/
def RelS (pss : List (List ByteArray)) (w : World) (u6 u18 : Value) (wr : World) : Prop :=
  ∃ (j : Nat) (v2 : Value) (t : ByteArray), j ≤ pss.length ∧ u18 = .int .i64 (j : Nat) ∧ u6 = .string t ∧ t.size ≤ 600 ∧ St wr w.heap.size v2 (bs t) (bs t).length ∧ Below w.heap.size w wr

set_option maxHeartbeats 3000000 in
set_option maxRecDepth 100000 in
theorem states_some (pss : List (List ByteArray)) (lv : Value) (looks : List Bool) (WA : Option Addr) (cap : Nat) (w : World) (hn : pss.length ≤ maxLen)
    (hc : ∀ i (hi : i < pss.length), ∃ wb wo, WA = some ⟨wb, wo, none⟩ ∧ wb < w.heap.size ∧ ∃ pv, w.cell? ⟨wb, wo + i, none⟩ = some pv ∧ Parts w (fun b => b < w.heap.size) pv pss[i] ∧ pss[i].length ≤ maxLen ∧ ∀ s ∈ pss[i], s.size ≤ maxLen)
    (A : Option Addr) (lc : Nat) (hlv : lv = .slice A looks.length lc) (hln : looks.length ≤ maxLen) (hlk : ∀ i (hi : i < looks.length), ∃ lb lo, A = some ⟨lb, lo, none⟩ ∧ lb < w.heap.size ∧ w.cell? ⟨lb, lo + i, none⟩ = some (.bool looks[i])) (hL : Laid w) :
    Calls Tryd.prog 5 #[.slice WA pss.length cap, lv] w fun e w' => e = .returned (.bool true) ∧ Below w.heap.size w w' := by
  subst hlv
  have HL := Lib.hid hL
  have HC := Lib.hid hc
  have HK := Lib.hid hlk
  clear hL hc hlk
  unfold maxLen at hn hln
  by_cases h12 : 12 < pss.length
  · have g12 : (12 : Int) < (pss.length : Int) := by omega
    go_enter Tryd.func5, Tryd.ntmps5
    go_wp2_with fail
    refine (awake3_any _ HL.out).mono ?_
    rintro e w1 ⟨rfl, hb1⟩
    go_wp2_with fail
    go_ret
    exact ⟨rfl, hb1⟩
  · have g12 : (pss.length : Int) ≤ 12 := by omega
    have gl : (looks.length : Int) ≤ 9223372036854775807 := by omega
    go_enter Tryd.func5, Tryd.ntmps5
    go_wp2_with fail
    refine (new_any w HL.out).mono ?_
    rintro e w1 ⟨rfl, hS1, hb1⟩
    go_wp2_with fail
    go_loopw [6, 7, 8, 9, 10, 18] (fun u6 _ _ _ _ u18 wr => RelS pss w u6 u18 wr) (fun _ _ _ _ _ u18 _ => pss.length - (intOf u18).toNat)
    case atStart => exact ⟨0, _, ⟨#[]⟩, Nat.zero_le _, rfl, rfl, Nat.zero_le _, hS1.out, hb1.out⟩
    case round =>
      clear hS1 hb1
      obtain ⟨j, v2, t, hj, rfl, rfl, ht, hS, hb⟩ := hrel
      have t0 : (t.size : Int) ≤ 600 := by omega
      have HS := Lib.hid (And.intro hS hb)
      by_cases hlt : j < pss.length
      · have j0 : (j : Int) < (pss.length : Int) := by omega
        have j1 : (0 : Int) ≤ (j : Int) := by omega
        obtain ⟨wb, wo, rfl, hwb, pv, hpv, hP, hpn, hps⟩ := HC.out j hlt
        have cpv : wr.cell? ⟨wb, wo + j, none⟩ = some pv := by rw [hb.cell (p := ⟨wb, wo + j, none⟩) hwb]; exact hpv
        have HP := Lib.hid ((hP.below hb).mono (k' := fun b => b < w.heap.size) (fun b _ h => h))
        obtain ⟨pa, pcap, rfl, _⟩ := HP.out
        generalize pss[j] = ps at hpn hps HP cpv hP hpv
        have HPN := Lib.hid (And.intro hpn hps)
        clear hS hb hP hpv hpn hps
        go_wp2_with fail
        refine (joined_any ps (.slice pa ps.length pcap) 600 wr HP.out HPN.out.1 HPN.out.2 (by decide)).mono ?_
        rintro e w' ⟨s, ok, rfl, hok, rfl⟩
        have HOK := Lib.hid hok
        clear hok
        cases ok
        · go_wp2_with fail
          refine (awake3_any _ (HL.out.below HS.out.2 HL.out.size)).mono ?_
          rintro e w1 ⟨rfl, hb1⟩
          have HB1 := Lib.hid (HS.out.2.trans (hb1.mono HS.out.2.size))
          clear hb1
          go_wp2_with fail
          go_ret
          exact ⟨rfl, HB1.out⟩
        · have hj3 := HOK.out rfl
          have hs6 := hj3.2.1
          have HJ := Lib.hid hj3
          have s0 : (s.size : Int) ≤ 600 := by omega
          clear hj3 HOK
          by_cases hbig : 600 < t.size + s.size
          · have hbig' : (600 : Int) < (t.size : Int) + (s.size : Int) := by omega
            go_wp2_with fail
            refine (awake3_any _ (HL.out.below HS.out.2 HL.out.size)).mono ?_
            rintro e w1 ⟨rfl, hb1⟩
            have HB1 := Lib.hid (HS.out.2.trans (hb1.mono HS.out.2.size))
            clear hb1
            go_wp2_with fail
            go_ret
            exact ⟨rfl, HB1.out⟩
          · have hbig' : (t.size : Int) + (s.size : Int) ≤ 600 := by omega
            go_wp2_with fail
            refine (write_any w.heap.size v2 (.slice pa ps.length pcap) (bs t) ps wr HS.out.1 (HP.out.mono (fun b _ hbb => ⟨by omega, fun e => by have := (World.ownsRow.lt HS.out.1.buf b e.symm).1; omega⟩)) ?hl (by have := HJ.out.2.2; omega)).mono ?_
            case hl => rw [← HJ.out.1, bs_length, bs_length]; omega
            rintro e w4 ⟨rfl, v4, hS4, hU4⟩
            rw [← HJ.out.1, ← bs_cat] at hS4
            have hB4 : Below w.heap.size w w4 := HS.out.2.trans (hU4.toBelow (Nat.le_refl _) (fun k hk => (Nat.le_of_succ_le (World.ownsRow.lt HS.out.1.buf k hk).1)) HS.out.2.size)
            have hsz : (t ++ s).size = t.size + s.size := ByteArray.size_append
            obtain ⟨a, ha⟩ : ∃ a, t ++ s = a := ⟨_, rfl⟩
            rw [ha] at hS4 hsz
            have cn : w4.cell? ⟨w.heap.size, 9, none⟩ = some (.int .u64 ((a.size : Nat) : Int)) := by
              have h := hS4.count
              rw [bs_length] at h
              exact h
            have a6 : a.size ≤ 600 := by omega
            have a0 : (a.size : Int) ≤ 600 := by omega
            have HS4 := Lib.hid (And.intro hS4 hB4)
            have HA := Lib.hid ha
            clear hS4 hU4 hB4 hsz hbig hbig' ha
            by_cases hl : j < looks.length
            · obtain ⟨lb, lo, rfl, hlb, hcl⟩ := HK.out j hl
              have g1 : (j : Int) < (looks.length : Int) := by omega
              have cl4 : w4.cell? ⟨lb, lo + j, none⟩ = some (.bool looks[j]) := by rw [HS4.out.2.cell (p := ⟨lb, lo + j, none⟩) hlb]; exact hcl
              clear hcl
              generalize looks[j] = lk at cl4
              cases lk
              · go_wp2_with fail
                rw [HA.out]
                refine (len_any w.heap.size a.size w4 cn).mono ?_
                rintro e w5 ⟨rfl, rfl⟩
                go_wp2_with fail
                refine ⟨?_, ?measure⟩
                first | (refine ⟨_, _, _, _, _, _, ?_, rfl⟩; exact ⟨j + 1, v4, a, by omega, by go_num, rfl, by omega, HS4.out.1, HS4.out.2⟩) | exact ⟨j + 1, v4, a, by omega, by go_num, rfl, by omega, HS4.out.1, HS4.out.2⟩ | ((repeat apply Exists.intro); exact ⟨⟨j + 1, v4, a, by omega, by go_num, rfl, by omega, HS4.out.1, HS4.out.2⟩, rfl⟩)
                case measure => simp [intOf]; omega
              · go_wp2_with fail
                rw [HA.out]
                refine (len_any w.heap.size a.size w4 cn).mono ?_
                rintro e w5 ⟨rfl, rfl⟩
                go_wp2_with fail
                refine (sum_any w.heap.size v4 (bs a) w4 HS4.out.1 (by rw [bs_length]; omega)).mono ?_
                rintro e w5 ⟨rfl, hb5⟩
                have HS5 := Lib.hid (And.intro (HS4.out.1.below hb5) (HS4.out.2.trans (hb5.mono HS4.out.2.size)))
                generalize hd : ByteArray.mk (digest KW H0 (bs a)).toArray = dg
                have HD := Lib.hid hd
                clear hb5 hd
                go_wp2_with fail
                refine (refSum_any a w5 (by omega)).mono ?_
                rintro e w6 ⟨rfl, hb6⟩
                rw [HD.out]
                have HS6 := Lib.hid (And.intro (HS5.out.1.below hb6) (HS5.out.2.trans (hb6.mono HS5.out.2.size)))
                clear hb6
                go_wp2_with fail
                refine ⟨?_, ?measure⟩
                first | (refine ⟨_, _, _, _, _, _, ?_, rfl⟩; exact ⟨j + 1, v4, a, by omega, by go_num, rfl, by omega, HS6.out.1, HS6.out.2⟩) | exact ⟨j + 1, v4, a, by omega, by go_num, rfl, by omega, HS6.out.1, HS6.out.2⟩ | ((repeat apply Exists.intro); exact ⟨⟨j + 1, v4, a, by omega, by go_num, rfl, by omega, HS6.out.1, HS6.out.2⟩, rfl⟩)
                case measure => simp [intOf]; omega
            · have g1 : ¬ (j : Int) < (looks.length : Int) := by omega
              go_wp2_with fail
              rw [HA.out]
              refine (len_any w.heap.size a.size w4 cn).mono ?_
              rintro e w5 ⟨rfl, rfl⟩
              go_wp2_with fail
              refine ⟨?_, ?measure⟩
              first | (refine ⟨_, _, _, _, _, _, ?_, rfl⟩; exact ⟨j + 1, v4, a, by omega, by go_num, rfl, by omega, HS4.out.1, HS4.out.2⟩) | exact ⟨j + 1, v4, a, by omega, by go_num, rfl, by omega, HS4.out.1, HS4.out.2⟩ | ((repeat apply Exists.intro); exact ⟨⟨j + 1, v4, a, by omega, by go_num, rfl, by omega, HS4.out.1, HS4.out.2⟩, rfl⟩)
              case measure => simp [intOf]; omega
      · obtain rfl : j = pss.length := by omega
        clear hS hb
        go_wp2_with fail
        refine (awake3_any _ (HL.out.below HS.out.2 HL.out.size)).mono ?_
        rintro e w1 ⟨rfl, hb1⟩
        have HS1 := Lib.hid (And.intro (HS.out.1.below hb1) (HS.out.2.trans (hb1.mono HS.out.2.size)))
        clear hb1
        have hl6 : (bs t).length ≤ 1099511627776 := by rw [bs_length]; omega
        go_wp2_with fail
        refine (sum_any w.heap.size v2 _ w1 HS1.out.1 hl6).mono ?_
        rintro e w3 ⟨rfl, hb3⟩
        have HS3 := Lib.hid (And.intro (HS1.out.1.below hb3) (HS1.out.2.trans (hb3.mono HS1.out.2.size)))
        clear hb3
        generalize hd : ByteArray.mk (digest KW H0 (bs t)).toArray = dg
        have HD := Lib.hid hd
        clear hd
        go_wp2_with fail
        refine (refSum_any t w3 (by omega)).mono ?_
        rintro e w4 ⟨rfl, hb4⟩
        rw [HD.out]
        have HS4 := Lib.hid (And.intro (HS3.out.1.below hb4) (HS3.out.2.trans (hb4.mono HS3.out.2.size)))
        clear hb4
        go_wp2_with fail
        refine (sum_any w.heap.size v2 _ w4 HS4.out.1 hl6).mono ?_
        rintro e w5 ⟨rfl, hb5⟩
        rw [HD.out]
        have HS5 := Lib.hid (And.intro (HS4.out.1.below hb5) (HS4.out.2.trans (hb5.mono HS4.out.2.size)))
        clear hb5
        go_wp2_with fail
        refine (sum_any w.heap.size v2 _ w5 HS5.out.1 hl6).mono ?_
        rintro e w6 ⟨rfl, hb6⟩
        rw [HD.out]
        have HS6 := Lib.hid (HS5.out.2.trans (hb6.mono HS5.out.2.size))
        clear hb6
        go_wp2_with fail
        go_ret
        exact ⟨rfl, HS6.out⟩

theorem shaStates_walk (v lv : Value) (pss : List (List ByteArray)) (looks : List Bool) (w : World) (h1 : Rows2 w v pss) (h2 : Bools w lv looks) (hL : Laid w) :
    Calls Tryd.prog 5 #[v, lv] w fun e w' => e = .returned (.bool true) ∧ Below w.heap.size w w' := by
  obtain ⟨A, cap, rfl, hn, hc⟩ := h1
  obtain ⟨B, lc, rfl, hln, hlk⟩ := h2
  exact states_some pss _ looks A cap w hn hc B lc rfl hln hlk hL
end Go.Proofs.YtnmooegegknmoaaDoor
