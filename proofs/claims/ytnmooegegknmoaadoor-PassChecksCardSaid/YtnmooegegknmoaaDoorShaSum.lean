/-
  The contract of the program's Sum.
-/
import Derived.Test.YtnmooegegknmoaaDoorShaWrite
import Derived.StillTailTactics
import Derived.Outline
namespace Go.Proofs.YtnmooegegknmoaaDoor
open Go.RowKit Go.Proofs.Sha Go.Proofs.Buf

theorem be8_at (x j : Nat) (h : j < 8) : (be8 x).take (j + 1) = (be8 x).take j ++ [UInt8.ofNat (x / 2 ^ (8 * (7 - j)))] := by
  match j, h with
  | 0, _ => rfl
  | 1, _ => rfl
  | 2, _ => rfl
  | 3, _ => rfl
  | 4, _ => rfl
  | 5, _ => rfl
  | 6, _ => rfl
  | 7, _ => simp [be8]
theorem at_new (w : World) (C : Array Value) (T : TypeId) (l : List UInt8) (h : C.toList = cellsOf l) : At (w.alloc (.cells C T)) ⟨w.heap.size, 0, none⟩ l := by
  intro j u hu
  have ha : (⟨w.heap.size, 0, none⟩ : Addr).add j = ⟨w.heap.size, j, none⟩ := by unfold Addr.add; split <;> simp_all
  rw [ha, World.cell?_alloc_mark, ← Array.getElem?_toList, h]
  exact hu
/-- A slice's length. -/
def lenV : Value → Nat
  | .slice _ n _ => n
  | _ => 0
/-- The text's end, so far. -/
def endTo (l : List UInt8) (k : Nat) : List UInt8 := restOf l ++ 128 :: List.replicate k 0
theorem endTo_length (l : List UInt8) (k : Nat) : (endTo l k).length = l.length % 64 + 1 + k := by
  simp [endTo, restOf_length]
  omega
theorem endTo_next (l : List UInt8) (k : Nat) : endTo l (k + 1) = endTo l k ++ [0] := by
  simp [endTo, List.replicate_succ']
def endBits (l : List UInt8) (j : Nat) : List UInt8 := endTo l (fillOf l.length) ++ (be8 (8 * l.length)).take j
theorem endBits_all (l : List UInt8) : endBits l 8 = restOf l ++ tailOf l.length := by
  simp [endBits, endTo, tailOf, be8]
theorem grown_below {w w1 w2 : World} {B : Nat} {e : TypeId} {v : Value} {l : List UInt8} (hb : Below B w w1) (hB : B ≤ w1.heap.size) (hv : Buf w1 B e v l) (hg : w1.grownBy w2 v.ownBlock) : Below B w w2 :=
  hb.grown hg hB (fun k hk => (World.ownsRow.lt hv k hk).1)

theorem byte_of (x : Nat) : (((UInt8.ofNat x).toNat : Nat) : Int) = (x : Int) % 256 := by
  rw [UInt8.toNat_ofNat']
  omega
theorem bits_byte (n i : Nat) : (n : Int) * 8 / 2 ^ (8 * i) % 256 = (((UInt8.ofNat (8 * n / 2 ^ (8 * i))).toNat : Nat) : Int) := by
  rw [byte_of, Int.natCast_ediv, Int.natCast_pow, Int.natCast_mul, Int.mul_comm]
  rfl
theorem endBits_length (l : List UInt8) (j : Nat) (h : j ≤ 8) : (endBits l j).length = l.length % 64 + 1 + fillOf l.length + j := by
  unfold endBits
  rw [List.length_append, endTo_length, List.length_take, be8_length]
  omega
theorem _root_.Go.Proofs.Buf.Buf.open_ {w : World} {base : Nat} {e : TypeId} {A : Option Addr} {n c : Nat} {l : List UInt8} (h : Buf w base e (.slice A n c) l) (h0 : 0 < l.length) :
    ∃ g, A = some ⟨g, 0, none⟩ ∧ base ≤ g ∧ g < w.heap.size ∧ n ≤ c ∧ ∀ i, i < l.length → w.cell? ⟨g, i, none⟩ = some (.int .u8 (((l.getD i 0).toNat : Nat) : Int)) := by
  have hc := fun g => World.ownsRow.cells (g := g) h
  have hlt := World.ownsRow.lt h
  have hle := h.le_cap
  rcases h.2 with ⟨hv, hn⟩ | ⟨g, cap, cur, hv, hb, _⟩
  · omega
  · injection hv with hA hn' hc'
    subst hA
    refine ⟨g, rfl, hb, (hlt g rfl).2, hle, fun i hi => ?_⟩
    have := hc g rfl i (byteV (l.getD i 0)) (by rw [cellsOf, List.getElem?_map, List.getD_eq_getElem?_getD, List.getElem?_eq_getElem hi]; rfl)
    have ha : (⟨g, 0, none⟩ : Addr).add i = ⟨g, i, none⟩ := by unfold Addr.add; split <;> simp_all
    rw [ha] at this
    exact this
theorem word_cells (z : BitVec 32) : [Value.int .u8 (Sha.u32 z / 16777216 % 256), .int .u8 (Sha.u32 z / 65536 % 256), .int .u8 (Sha.u32 z / 256 % 256), .int .u8 (Sha.u32 z % 256)] = cellsOf (word z) := by
  simp only [cellsOf, word, List.map_cons, List.map_nil, byteV, byte_of, Sha.u32_eq]
  rfl
theorem val_int {k : IntKind} {a b : Int} (h : a = b) : Value.int k a = .int k b := by rw [h]
theorem index_h8 (y : H8) (j : Nat) (h : j < 8) (w : World) :
    (Instr.index 63 (.agg #[.int .u32 (u32 y.a), .int .u32 (u32 y.b), .int .u32 (u32 y.c), .int .u32 (u32 y.d), .int .u32 (u32 y.e), .int .u32 (u32 y.f), .int .u32 (u32 y.g), .int .u32 (u32 y.h)]) (.int .i64 ((j : Nat) : Int))).run Tryd.prog w = .ok (.int .u32 (u32 (y.get j))) w := by
  have hj : j = 0 ∨ j = 1 ∨ j = 2 ∨ j = 3 ∨ j = 4 ∨ j = 5 ∨ j = 6 ∨ j = 7 := by omega
  rcases hj with rfl | rfl | rfl | rfl | rfl | rfl | rfl | rfl <;> rfl

theorem below_set8 {w w' : World} {C B : Nat} (h : Below C w w') (hB : C ≤ B) (y : H8) : Below C w (set8 w' B y) :=
  (((((((h.setCell (p := ⟨B, 0, none⟩) hB _).setCell (p := ⟨B, 1, none⟩) hB _).setCell (p := ⟨B, 2, none⟩) hB _).setCell (p := ⟨B, 3, none⟩) hB _).setCell (p := ⟨B, 4, none⟩) hB _).setCell (p := ⟨B, 5, none⟩) hB _).setCell (p := ⟨B, 6, none⟩) hB _).setCell (p := ⟨B, 7, none⟩) hB _

/-- What the loop over the blocks keeps. -/
def Rel3 (hb g Nb : Nat) (X : H8) (m : List UInt8) (w0 : World) (u3 : Value) (wq : World) : Prop :=
  ∃ (k : Nat) (A3 : Option Addr) (c3 : Nat), k ≤ Nb ∧ u3 = .slice A3 (64 * (Nb - k)) c3 ∧ 64 * (Nb - k) ≤ c3 ∧ (k < Nb → A3 = some ⟨g, 64 * k, none⟩) ∧ Words wq hb 8 (blocks KW X m k).get ∧ Below hb w0 wq ∧ hb < wq.heap.size
theorem rel3_next {hb g Nb k n3 c' : Nat} {X y : H8} {m : List UInt8} {w0 w3 : World} {A' : Option Addr} {f : Nat → BitVec 32} (hk : k < Nb) (hn : 64 * (Nb - k) = n3) (hA : k + 1 < Nb → A' = some ⟨g, 64 * k + 64, none⟩) (hc : n3 - 64 ≤ c') (hV : Words w3 hb 8 f)
    (hy : blockOf KW (bytesFrom m (64 * k)) (blocks KW X m k) = y) (hB : Below hb w0 w3) (hs : hb < w3.heap.size) : Rel3 hb g Nb X m w0 (.slice A' (n3 - 64) c') (set8 w3 hb y) := by
  have e : n3 - 64 = 64 * (Nb - (k + 1)) := by omega
  refine ⟨k + 1, A', c', by omega, by rw [e], by omega, fun h => by rw [hA h]; congr 1, ?_, below_set8 hB (Nat.le_refl _) y, by rw [set8_size]; exact hs⟩
  have h := set8_words hV y
  rw [← hy] at h ⊢
  exact h

set_option maxHeartbeats 800000 in
set_option maxRecDepth 100000 in
theorem sum_any (B : Nat) (v : Value) (l : List UInt8) (w : World) (hS : St w B v l l.length) (hlen : l.length ≤ 1099511627776) :
    Calls Tryd.prog 17 #[.pointer (some ⟨B, 0, none⟩)] w fun e w' => e = .returned (.string ⟨(digest KW H0 l).toArray⟩) ∧ Below w.heap.size w w' := by
  obtain ⟨A, c, rfl⟩ := hS.len
  have cr := hS.rest
  have cn := hS.count
  have hlr := restOf_length l
  have hr64 : l.length % 64 < 64 := Nat.mod_lt _ (by decide)
  have HH := Lib.hid hS
  generalize hr : l.length % 64 = r at cr hlr HH hr64
  have hR := Lib.hid (And.intro hr hlr)
  clear hr hlr hS
  go_enter Tryd.func17, Tryd.ntmps17
  go_wp2_with (at_builtin; refine wpList_append_bytes rfl (.const (.slice none 0 0)) (.tmp 14) 51 rfl Tryd.underlying51 info5 (base := w.heap.size) rfl (Buf.nil _ _ _) A r c (restOf l) rfl ?c1 ?c2 ?c3 ?c4 ?_)
  case c1 => exact hR.out.2
  case c2 => exact Go.Proofs.Sha.Buf.bytes HH.out.buf
  case c3 => simp; omega
  case c4 => exact Nat.le_refl _
  intro v1 w1 hb1 hg1 _
  have hB1 : Below w.heap.size w w1 := (Below.refl _ _).grown hg1 (Nat.le_refl _) (by simp [Value.ownBlock])
  go_wp2_with (at_builtin; refine wpList_append rfl (.tmp 15) (.tmp 16) 51 rfl Tryd.underlying51 info5 rfl (hb1.alloc _) ⟨w1.heap.size, 0, none⟩ 1 1 [128] rfl rfl ?d1 ?d2 ?d3 ?_)
  case d1 => exact At.one _ _ _ _ rfl
  case d2 => rw [hR.out.2]; omega
  case d3 => simp; exact Nat.le_succ_of_le hB1.size
  intro v2 w2 hb2 hg2
  have hB2 : Below w.heap.size w w2 := grown_below (hB1.alloc hB1.size _) (by simp; exact Nat.le_succ_of_le hB1.size) (hb1.alloc _) hg2
  have hE : endTo l 0 = restOf l ++ [128] := rfl
  rw [← hE] at hb2
  clear hb1 hg1 hB1 hg2 hE
  go_wp2_with fail
  go_loopw [3] (fun u3 wr => ∃ (k : Nat), k ≤ fillOf l.length ∧ Buf wr w.heap.size 5 u3 (endTo l k) ∧ Below w.heap.size w wr) (fun u3 _ => 128 - lenV u3)
  case atStart => exact ⟨0, Nat.zero_le _, hb2, hB2⟩
  case round =>
    clear hb2 hB2
    obtain ⟨k, hk, hb3, hB3⟩ := hrel
    have hx : ∃ a3 c3, u3 = .slice a3 (endTo l k).length c3 := hb3.len
    obtain ⟨a3, c3, rfl⟩ := hx
    have hf : fillOf l.length = (119 - r) % 64 := by unfold fillOf; rw [hR.out.1]
    have hel : (endTo l k).length = r + 1 + k := by rw [endTo_length, hR.out.1]
    generalize hN : (endTo l k).length = N at hel hb3
    have NN := Lib.hid (And.intro hN (And.intro hel hf))
    by_cases hlt : k < fillOf l.length
    · have t1 : ((N : Int) % 64 == 56) = false := by
        have : ¬ ((N : Int) % 64 = 56) := by omega
        simpa using this
      have t2 : ((N : Int) % 64 != 56) = true := by simp [t1, bne]
      have t3 : (N : Int) ≤ 128 := by omega
      clear hN hel hf
      have HB := Lib.hid (And.intro hb3 hB3)
      clear hb3 hB3
      go_wp2_with (at_builtin; refine wpList_append rfl (.tmp 22) (.tmp 23) 51 rfl Tryd.underlying51 info5 rfl (HB.out.1.alloc _) ⟨wr.heap.size, 0, none⟩ 1 1 [0] rfl rfl ?e1 ?e2 ?e3 ?_)
      case e1 => exact At.one _ _ _ _ rfl
      case e2 => rw [NN.out.1]; omega
      case e3 => simp; exact Nat.le_succ_of_le HB.out.2.size
      intro v3 w3 hb4 hg4
      have hB4 : Below w.heap.size w w3 := grown_below (HB.out.2.alloc HB.out.2.size _) (by simp; exact Nat.le_succ_of_le HB.out.2.size) (HB.out.1.alloc _) hg4
      rw [← endTo_next] at hb4
      have hx : ∃ a4 c4, v3 = .slice a4 (endTo l (k + 1)).length c4 := hb4.len
      obtain ⟨a4, c4, hv4⟩ := hx
      have hb5 := Lib.hid hb4
      clear hb4 hg4
      go_wp2_with fail
      go_roundw
      case rel => exact ⟨k + 1, by omega, hb5.out, hB4⟩
      case measure =>
        rw [hv4]
        show 128 - (endTo l (k + 1)).length < 128 - N
        have h1 := endTo_length l (k + 1)
        rw [hR.out.1] at h1
        have h2 := NN.out.2.1
        have h3 := NN.out.2.2
        omega
    · have hk' : k = fillOf l.length := by omega
      have t1 : ((N : Int) % 64 == 56) = true := by
        have : ((N : Int) % 64 = 56) := by omega
        simpa using this
      have t2 : ((N : Int) % 64 != 56) = false := by simp [t1, bne]
      clear hN hel hf
      have HB := Lib.hid (And.intro hb3 hB3)
      clear hb3 hB3
      subst hk'
      have hb6 : Buf wr w.heap.size 5 (.slice a3 N c3) (endBits l 0) := by
        unfold endBits
        rw [List.take_zero, List.append_nil]
        exact HB.out.1
      go_wp2_with fail
      go_loopw [3, 4] (fun u3 u4 wr => ∃ (j : Nat), j ≤ 8 ∧ u4 = .int .i64 (7 - (j : Int)) ∧ Buf wr w.heap.size 5 u3 (endBits l j) ∧ Below w.heap.size w wr) (fun _ u4 _ => (intOf u4 + 1).toNat)
      case atStart => exact ⟨0, by omega, rfl, hb6, HB.out.2⟩
      case round =>
        clear hb6 HB NN hlt hk t1 t2
        obtain ⟨j, hj, rfl, hb7, hB7⟩ := hrel
        have hx : ∃ a7 c7, u3 = .slice a7 (endBits l j).length c7 := hb7.len
        obtain ⟨a7, c7, rfl⟩ := hx
        have hSr := Lib.hid (HH.out.below hB7)
        by_cases hlt : j < 8
        · obtain ⟨i, hi⟩ : ∃ i : Nat, i + j = 7 := ⟨7 - j, by omega⟩
          have ei : 7 - (j : Int) = (i : Int) := by omega
          rw [ei]
          have ei2 := Lib.hid ei
          have hi2 := Lib.hid hi
          have cn7 : wr.cell? ⟨B, 9, none⟩ = some (.int .u64 (l.length : Nat)) := hSr.out.count
          have q0 : (0 : Int) ≤ (i : Int) := by omega
          have q1 : (i : Int) ≤ 7 := by omega
          have q2 : (l.length : Int) ≤ 1099511627776 := by omega
          clear ei hi
          have HB := Lib.hid (And.intro hb7 hB7)
          clear hb7 hB7
          go_wp2_with (at_builtin; refine wpList_append rfl (.tmp 29) (.tmp 39) 51 rfl Tryd.underlying51 info5 rfl (HB.out.1.alloc _) ⟨wr.heap.size, 0, none⟩ 1 1 [UInt8.ofNat ((8 * l.length) / 2 ^ (8 * i))] rfl rfl ?f1 ?f2 ?f3 ?_)
          case f1 =>
            refine At.one _ _ _ _ ?_
            exact bits_byte _ _
          case f2 =>
            rw [endBits_length _ _ hj]
            have : fillOf l.length < 64 := Nat.mod_lt _ (by decide)
            omega
          case f3 => simp; exact Nat.le_succ_of_le HB.out.2.size
          intro v8 w8 hb8 hg8
          have hB8 : Below w.heap.size w w8 := grown_below (HB.out.2.alloc HB.out.2.size _) (by simp; exact Nat.le_succ_of_le HB.out.2.size) (HB.out.1.alloc _) hg8
          have e8 : endBits l j ++ [UInt8.ofNat ((8 * l.length) / 2 ^ (8 * i))] = endBits l (j + 1) := by
            unfold endBits
            rw [be8_at _ _ hlt, show 7 - j = i by have := hi2.out; omega, List.append_assoc]
          rw [e8] at hb8
          have hb9 := Lib.hid hb8
          clear hb8 hg8 e8
          go_wp2_with fail
          go_roundw
          case rel => exact ⟨j + 1, by omega, val_int (by have := hi2.out; omega), hb9.out, hB8⟩
          case measure => simp [intOf]
        · obtain rfl : j = 8 := by omega
          have hm : endBits l 8 = restOf l ++ tailOf l.length := endBits_all l
          have hm2 : (endBits l 8).length = l.length % 64 + 1 + fillOf l.length + 8 := endBits_length l 8 (Nat.le_refl _)
          obtain ⟨g, rfl, hbg, hgw, hTc, hcells⟩ := hb7.open_ (by omega)
          have hfl : fillOf l.length = (119 - l.length % 64) % 64 := rfl
          obtain ⟨Nb, hNb⟩ : ∃ Nb, (endBits l 8).length = 64 * Nb := ⟨(endBits l 8).length / 64, by rw [hm2, hfl]; omega⟩
          have hMM := Lib.hid (And.intro hm (And.intro hm2 hfl))
          clear hm hm2 hfl
          rw [hNb] at hTc
          generalize hme : endBits l 8 = m at hNb hcells hMM hb7 ⊢
          have hME := Lib.hid hme
          clear hme
          rw [hNb] at hcells ⊢
          have hNB := Lib.hid hNb
          clear hNb hb7
          have hW := hSr.out.words
          generalize hX : wordsOf KW H0 l = X at hW
          have hXX := Lib.hid hX
          clear hX
          obtain ⟨x0, x1, x2, x3, x4, x5, x6, x7⟩ := X
          have x0c : wr.cell? ⟨B, 0, none⟩ = some (.int .u32 (Sha.u32 x0)) := hW.1 0 (by decide)
          have x1c : wr.cell? ⟨B, 1, none⟩ = some (.int .u32 (Sha.u32 x1)) := hW.1 1 (by decide)
          have x2c : wr.cell? ⟨B, 2, none⟩ = some (.int .u32 (Sha.u32 x2)) := hW.1 2 (by decide)
          have x3c : wr.cell? ⟨B, 3, none⟩ = some (.int .u32 (Sha.u32 x3)) := hW.1 3 (by decide)
          have x4c : wr.cell? ⟨B, 4, none⟩ = some (.int .u32 (Sha.u32 x4)) := hW.1 4 (by decide)
          have x5c : wr.cell? ⟨B, 5, none⟩ = some (.int .u32 (Sha.u32 x5)) := hW.1 5 (by decide)
          have x6c : wr.cell? ⟨B, 6, none⟩ = some (.int .u32 (Sha.u32 x6)) := hW.1 6 (by decide)
          have x7c : wr.cell? ⟨B, 7, none⟩ = some (.int .u32 (Sha.u32 x7)) := hW.1 7 (by decide)
          clear hW cr cn
          go_wp2_with fail
          generalize hhb : wr.heap.size = hb at hgw ⊢
          go_loopw [3] (fun u3 wq => Rel3 hb g Nb ⟨x0, x1, x2, x3, x4, x5, x6, x7⟩ m wr u3 wq) (fun u3 _ => lenV u3)
          case atStart =>
            subst hhb
            exact ⟨0, _, _, Nat.zero_le _, rfl, hTc, fun _ => rfl, words_row wr ⟨x0, x1, x2, x3, x4, x5, x6, x7⟩ _, (Below.refl _ _).alloc (Nat.le_refl _) _, by simp⟩
          case round =>
            clear x0c x1c x2c x3c x4c x5c x6c x7c
            obtain ⟨k, A3, c3, hk, rfl, hc3, hA3, hW, hbq, hbs⟩ := hrel
            have hSq := Lib.hid (HH.out.below (hB7.trans (hbq.mono (by omega))))
            by_cases hlt : k < Nb
            · have eA := hA3 hlt
              subst eA
              have hcg : ∀ i, i < 64 → wr.cell? ⟨g, 64 * k + i, none⟩ = some (.int .u8 (((bytesFrom m (64 * k) i).toNat : Nat) : Int)) := fun i hi => by
                rw [hbq.cell (p := ⟨g, 64 * k + i, none⟩) hgw]
                exact hcells _ (by omega)
              generalize hZ : blocks KW ⟨x0, x1, x2, x3, x4, x5, x6, x7⟩ m k = z at hW
              have hZZ := Lib.hid hZ
              clear hZ
              obtain ⟨z0, z1, z2, z3, z4, z5, z6, z7⟩ := z
              have z0c : wr.cell? ⟨hb, 0, none⟩ = some (.int .u32 (Sha.u32 z0)) := hW.1 0 (by decide)
              have z1c : wr.cell? ⟨hb, 1, none⟩ = some (.int .u32 (Sha.u32 z1)) := hW.1 1 (by decide)
              have z2c : wr.cell? ⟨hb, 2, none⟩ = some (.int .u32 (Sha.u32 z2)) := hW.1 2 (by decide)
              have z3c : wr.cell? ⟨hb, 3, none⟩ = some (.int .u32 (Sha.u32 z3)) := hW.1 3 (by decide)
              have z4c : wr.cell? ⟨hb, 4, none⟩ = some (.int .u32 (Sha.u32 z4)) := hW.1 4 (by decide)
              have z5c : wr.cell? ⟨hb, 5, none⟩ = some (.int .u32 (Sha.u32 z5)) := hW.1 5 (by decide)
              have z6c : wr.cell? ⟨hb, 6, none⟩ = some (.int .u32 (Sha.u32 z6)) := hW.1 6 (by decide)
              have z7c : wr.cell? ⟨hb, 7, none⟩ = some (.int .u32 (Sha.u32 z7)) := hW.1 7 (by decide)
              generalize hn3 : 64 * (Nb - k) = n3 at hc3
              have hN3 := Lib.hid hn3
              have q0 : (64 : Int) ≤ (n3 : Int) := by omega
              have q1 : (64 : Int) ≤ (c3 : Int) := by omega
              have q2 : (0 : Int) < (n3 : Int) := by omega
              have HB := Lib.hid (And.intro hW (And.intro hbq hbs))
              have HC := Lib.hid hcg
              have hsz := HB.out.2.2
              clear hn3 hW hbq hcg
              rcases Nat.eq_or_lt_of_le (show 64 ≤ c3 by omega) with e64 | h64
              case' inl =>
                subst e64
                obtain rfl : n3 = 64 := by omega
              case' inr => have h64' : ¬ c3 = 64 := by omega
              all_goals
               go_wp2_with fail
               go_still_tail 3, (by kernel_rfl)
               change wpList _ _ _ _ _ wr.drew
               go_wp2_with fail
               refine (block_ex ⟨z0, z1, z2, z3, z4, z5, z6, z7⟩ g (64 * k) _ (bytesFrom m (64 * k)) wr.drew (Nat.lt_trans hSq.out.lo hSq.out.hi) hSq.out.tab (Nat.lt_trans hgw hbs) HC.out).mono ?_
               rintro e w3 ⟨y0, y1, y2, y3, y4, y5, y6, y7, rfl, hy, hb3⟩
               have hV : Words w3 hb 8 (H8.get ⟨z0, z1, z2, z3, z4, z5, z6, z7⟩) := HB.out.1.drew.below hb3.out hbs
               have s0c : w3.cell? ⟨hb, 0, none⟩ = some (.int .u32 (Sha.u32 z0)) := hV.1 0 (by decide)
               have s0f : w3.frozen? ⟨hb, 0, none⟩ = false := hV.2 0 (by decide)
               have s1c : w3.cell? ⟨hb, 1, none⟩ = some (.int .u32 (Sha.u32 z1)) := hV.1 1 (by decide)
               have s1f : w3.frozen? ⟨hb, 1, none⟩ = false := hV.2 1 (by decide)
               have s2c : w3.cell? ⟨hb, 2, none⟩ = some (.int .u32 (Sha.u32 z2)) := hV.1 2 (by decide)
               have s2f : w3.frozen? ⟨hb, 2, none⟩ = false := hV.2 2 (by decide)
               have s3c : w3.cell? ⟨hb, 3, none⟩ = some (.int .u32 (Sha.u32 z3)) := hV.1 3 (by decide)
               have s3f : w3.frozen? ⟨hb, 3, none⟩ = false := hV.2 3 (by decide)
               have s4c : w3.cell? ⟨hb, 4, none⟩ = some (.int .u32 (Sha.u32 z4)) := hV.1 4 (by decide)
               have s4f : w3.frozen? ⟨hb, 4, none⟩ = false := hV.2 4 (by decide)
               have s5c : w3.cell? ⟨hb, 5, none⟩ = some (.int .u32 (Sha.u32 z5)) := hV.1 5 (by decide)
               have s5f : w3.frozen? ⟨hb, 5, none⟩ = false := hV.2 5 (by decide)
               have s6c : w3.cell? ⟨hb, 6, none⟩ = some (.int .u32 (Sha.u32 z6)) := hV.1 6 (by decide)
               have s6f : w3.frozen? ⟨hb, 6, none⟩ = false := hV.2 6 (by decide)
               have s7c : w3.cell? ⟨hb, 7, none⟩ = some (.int .u32 (Sha.u32 z7)) := hV.1 7 (by decide)
               have s7f : w3.frozen? ⟨hb, 7, none⟩ = false := hV.2 7 (by decide)
               have HV := Lib.hid hV
               clear hV z0c z1c z2c z3c z4c z5c z6c z7c
               go_wp2_with fail
               have hyy : blockOf KW (bytesFrom m (64 * k)) (blocks KW ⟨x0, x1, x2, x3, x4, x5, x6, x7⟩ m k) = ⟨y0, y1, y2, y3, y4, y5, y6, y7⟩ := by rw [hZZ.out]; exact hy.out
               have hbb := (HB.out.2.1.drew).trans (hb3.out.mono (Nat.le_of_lt hsz))
               have hR3 := fun A' c' h1 h2 => rel3_next (g := g) (A' := A') (c' := c') hlt hN3.out h1 h2 HV.out hyy hbb (Nat.lt_of_lt_of_le hsz hb3.out.size)
               refine ⟨?_, ?ms⟩
               iterate 10 apply Exists.intro
               refine ⟨hR3 _ _ ?hA ?hc, rfl⟩
               case hA => first | exact fun _ => rfl | (have := hN3.out; intro h; omega)
               case hc => omega
               case ms => simp [lenV]; try omega
            · obtain rfl : k = Nb := by omega
              generalize hY : blocks KW ⟨x0, x1, x2, x3, x4, x5, x6, x7⟩ m k = y at hW
              have hYY := Lib.hid hY
              clear hY
              obtain ⟨y0, y1, y2, y3, y4, y5, y6, y7⟩ := y
              have z0c : wr.cell? ⟨hb, 0, none⟩ = some (.int .u32 (Sha.u32 y0)) := hW.1 0 (by decide)
              have z1c : wr.cell? ⟨hb, 1, none⟩ = some (.int .u32 (Sha.u32 y1)) := hW.1 1 (by decide)
              have z2c : wr.cell? ⟨hb, 2, none⟩ = some (.int .u32 (Sha.u32 y2)) := hW.1 2 (by decide)
              have z3c : wr.cell? ⟨hb, 3, none⟩ = some (.int .u32 (Sha.u32 y3)) := hW.1 3 (by decide)
              have z4c : wr.cell? ⟨hb, 4, none⟩ = some (.int .u32 (Sha.u32 y4)) := hW.1 4 (by decide)
              have z5c : wr.cell? ⟨hb, 5, none⟩ = some (.int .u32 (Sha.u32 y5)) := hW.1 5 (by decide)
              have z6c : wr.cell? ⟨hb, 6, none⟩ = some (.int .u32 (Sha.u32 y6)) := hW.1 6 (by decide)
              have z7c : wr.cell? ⟨hb, 7, none⟩ = some (.int .u32 (Sha.u32 y7)) := hW.1 7 (by decide)
              have hB9 : Below w.heap.size w wr := hB7.trans (hbq.mono (by omega))
              have e0 : 64 * (k - k) = 0 := by omega
              rw [e0]
              have hix := fun (j : Nat) (hj : j < 8) => index_h8 ⟨y0, y1, y2, y3, y4, y5, y6, y7⟩ j hj
              have HI := Lib.hid hix
              clear hW hbq hc3 hA3 e0 hix
              go_wp2_with fail
              go_loopw [6, 8, 55] (fun u6 _ i wq => ∃ (j : Nat), j ≤ 8 ∧ i = .int .i64 j ∧ Buf wq w.heap.size 5 u6 (outTo ⟨y0, y1, y2, y3, y4, y5, y6, y7⟩ j) ∧ Below w.heap.size w wq) (fun _ _ i _ => 8 - (intOf i).toNat)
              case atStart => exact ⟨0, by omega, rfl, Buf.nil _ _ _, hB9⟩
              case round =>
                clear hB9 z0c z1c z2c z3c z4c z5c z6c z7c
                obtain ⟨j, hj, rfl, hbf, hbl⟩ := hrel
                have hx : ∃ a6 c6, u6 = .slice a6 (outTo ⟨y0, y1, y2, y3, y4, y5, y6, y7⟩ j).length c6 := hbf.len
                obtain ⟨a6, c6, rfl⟩ := hx
                by_cases hlt : j < 8
                · have q0 : (j : Int) < 8 := by omega
                  have ix := HI.out j hlt
                  generalize hg : H8.get ⟨y0, y1, y2, y3, y4, y5, y6, y7⟩ j = z at ix
                  have hG := Lib.hid hg
                  have HB := Lib.hid (And.intro hbf hbl)
                  clear hg hbf hbl
                  go_wp2_with (at_builtin; refine wpList_append rfl (.tmp 58) (.tmp 70) 51 rfl Tryd.underlying51 info5 rfl (HB.out.1.alloc _) ⟨wr.heap.size, 0, none⟩ 4 4 (word z) rfl rfl ?g1 ?g2 ?g3 ?_)
                  case g1 =>
                    refine at_new _ _ _ _ ?_
                    exact word_cells z
                  case g2 => rw [outTo_length]; omega
                  case g3 => simp; exact Nat.le_succ_of_le HB.out.2.size
                  intro v8 w8 hb8 hg8
                  have hB8 : Below w.heap.size w w8 := grown_below (HB.out.2.alloc HB.out.2.size _) (by simp; exact Nat.le_succ_of_le HB.out.2.size) (HB.out.1.alloc _) hg8
                  rw [← hG.out, show outTo ⟨y0, y1, y2, y3, y4, y5, y6, y7⟩ j ++ word (H8.get ⟨y0, y1, y2, y3, y4, y5, y6, y7⟩ j) = outTo ⟨y0, y1, y2, y3, y4, y5, y6, y7⟩ (j + 1) from rfl] at hb8
                  have hb9 := Lib.hid hb8
                  clear hb8 hg8
                  go_wp2_with fail
                  go_roundw
                  case rel => exact ⟨j + 1, by omega, by go_num, hb9.out, hB8⟩
                  case measure => simp [intOf]; omega
                · obtain rfl : j = 8 := by omega
                  have hst := hbf.string (P := Tryd.prog) Tryd.underlying51 Tryd.underlying5 Tryd.underlying9
                  go_wp2_with fail
                  go_ret
                  have hdg : digest KW H0 l = outTo ⟨y0, y1, y2, y3, y4, y5, y6, y7⟩ 8 := by
                    rw [digest_state, ← hMM.out.1, hXX.out, hNB.out, Nat.mul_div_cancel_left _ (by decide), hYY.out]
                  rw [hdg]
                  exact ⟨rfl, hbl⟩
end Go.Proofs.YtnmooegegknmoaaDoor
