/-
  The contract of the reference's Sum256.
-/
import Derived.Test.YtnmooegegknmoaaDoorShaPrimes
import Derived.Test.YtnmooegegknmoaaDoorFBuf
import Derived.Test.YtnmooegegknmoaaDoorShaSum
import Derived.Test.YtnmooegegknmoaaDoorRegionB
import Derived.IntWalk
import Derived.Deep.Light
namespace Go.Proofs.YtnmooegegknmoaaDoor
open Go.RowKit Go.Proofs.Sha Go.Proofs.Buf Go.Proofs.FBuf Go.Proofs.Reg

theorem info59 : (Tryd.prog.info? 59).map (fun i => (i.zero, i.size, i.bytes)) = some (some (.int .u32 0), 1, 4) := by kernel_rfl
/-- The text's end, as the reference lays it. -/
def refTo (l : List UInt8) (k : Nat) : List UInt8 := l ++ 128 :: List.replicate k 0
theorem refTo_length (l : List UInt8) (k : Nat) : (refTo l k).length = l.length + 1 + k := by
  simp [refTo]
  omega
theorem refTo_next (l : List UInt8) (k : Nat) : refTo l (k + 1) = refTo l k ++ [0] := by
  simp [refTo, List.replicate_succ']
def refBits (l : List UInt8) (j : Nat) : List UInt8 := refTo l (fillOf l.length) ++ (be8 (8 * l.length)).take j
theorem refBits_all (l : List UInt8) : refBits l 8 = l ++ tailOf l.length := by
  simp [refBits, refTo, tailOf, be8]
theorem refBits_length (l : List UInt8) (j : Nat) (h : j ≤ 8) : (refBits l j).length = l.length + 1 + fillOf l.length + j := by
  unfold refBits
  rw [List.length_append, refTo_length, List.length_take, be8_length]
  omega

def hNums : List Nat := prime64.map fun p => rootTo p 37 % 4294967296
def kNums : List Nat := prime64.map fun p => cubeTo p 36 % 4294967296
theorem hNums_length : hNums.length = 64 := by unfold hNums; rw [List.length_map, prime64_length]
theorem kNums_length : kNums.length = 64 := by unfold kNums; rw [List.length_map, prime64_length]
theorem map_next (f : Nat → Nat) (a : Nat) (h : a < 64) : (prime64.map f).take (a + 1) = (prime64.map f).take a ++ [f (prime64.getD a 0)] := by
  have hl : a < (prime64.map f).length := by rw [List.length_map, prime64_length]; exact h
  rw [List.take_succ_eq_append_getElem hl, List.getD_eq_getElem?_getD, List.getElem?_eq_getElem (by rw [prime64_length]; exact h), List.getElem_map]
  rfl
open Go.Proofs.Nums in
/-- The tables of the roots' numbers, so far. -/
structure Tab (w2 wr : World) (a b : Nat) (u7 u8 : Value) : Prop where
  h : NumRow wr w2.heap.size 59 .u32 u7 (hNums.take a)
  k : NumRow wr w2.heap.size 59 .u32 u8 (kNums.take b)
  apart : ∀ g, u7.ownBlock = some g → u8.ownBlock ≠ some g
  below : Below w2.heap.size w2 wr
open Go.Proofs.Nums in
theorem tab_start (w2 : World) : Tab w2 w2 0 0 (.slice none 0 0) (.slice none 0 0) := ⟨NumRow.nil _ _ _ _, NumRow.nil _ _ _ _, fun g h => by simp [Value.ownBlock] at h, Below.refl _ _⟩
open Go.Proofs.Nums in
theorem Tab.h_next {w2 wr w' : World} {a b : Nat} {u7 u8 v' : Value} (T : Tab w2 wr a b u7 u8) {o : Obj} (ha : a < 64) (hg : (wr.alloc o).grownBy w' u7.ownBlock) (hn : NumRow w' w2.heap.size 59 .u32 v' ((hNums.take a) ++ [rootTo (prime64.getD a 0) 37 % 4294967296]))
    (hat : v'.ownBlock = u7.ownBlock ∨ v'.ownBlock = some (wr.heap.size + 1)) : Tab w2 w' (a + 1) b v' u8 := by
  have hs := T.below.size
  refine ⟨?_, (T.k.alloc o).other hg (fun g hk => fun e => T.apart g e hk), fun g hk => ?_, Nums.grown_below (T.below.alloc hs o) (by simp; omega) (T.h.alloc o) hg⟩
  · rw [show hNums.take (a + 1) = hNums.take a ++ [rootTo (prime64.getD a 0) 37 % 4294967296] from map_next _ _ ha]
    exact hn
  · rcases hat with e | e
    · rw [e] at hk
      exact T.apart g hk
    · rw [e] at hk
      injection hk with hk
      intro hk2
      have := (T.k.lt g hk2).2
      omega
open Go.Proofs.Nums in
theorem Tab.k_next {w2 wr w' : World} {a b : Nat} {u7 u8 v' : Value} (T : Tab w2 wr a b u7 u8) {o : Obj} (hb : b < 64) (hg : (wr.alloc o).grownBy w' u8.ownBlock) (hn : NumRow w' w2.heap.size 59 .u32 v' ((kNums.take b) ++ [cubeTo (prime64.getD b 0) 36 % 4294967296]))
    (hat : v'.ownBlock = u8.ownBlock ∨ v'.ownBlock = some (wr.heap.size + 1)) : Tab w2 w' a (b + 1) u7 v' := by
  have hs := T.below.size
  refine ⟨(T.h.alloc o).other hg (fun g hk => fun e => T.apart g hk e), ?_, fun g hk => ?_, Nums.grown_below (T.below.alloc hs o) (by simp; omega) (T.k.alloc o) hg⟩
  · rw [show kNums.take (b + 1) = kNums.take b ++ [cubeTo (prime64.getD b 0) 36 % 4294967296] from map_next _ _ hb]
    exact hn
  · have := (T.h.lt g hk).2
    rcases hat with e | e
    · rw [e]
      exact T.apart g hk
    · rw [e]
      intro h
      injection h with h
      omega
theorem prime64_small : ∀ i, i < 64 → prime64.getD i 0 < 65536 := by decide +kernel

/-- What stands ahead of the loop over the blocks. -/
structure Base (w wb : World) (gb gh gk Nb : Nat) (m : List UInt8) : Prop where
  words : Words wb gh 8 H0.get
  tab : ∀ i, i < 64 → wb.cell? ⟨gk, i, none⟩ = some (.int .u32 (Sha.u32 (KW i)))
  bytes : ∀ i, i < 64 * Nb → wb.cell? ⟨gb, i, none⟩ = some (.int .u8 (((m.getD i 0).toNat : Nat) : Int))
  gbh : gb ≠ gh
  gkh : gk ≠ gh
  lo : w.heap.size ≤ gh
  hb : gb < wb.heap.size
  hh : gh < wb.heap.size
  hk : gk < wb.heap.size
  below : Below w.heap.size w wb
theorem root_vals : ∀ i, i < 8 → ((hNums.take 8).getD i 0 : Nat) = (H0.get i).toNat := by decide +kernel
theorem cube_vals : ∀ i, i < 64 → ((kNums.take 64).getD i 0 : Nat) = (KW i).toNat := by decide +kernel
open Go.Proofs.Nums in
theorem base_of {w w1 w2 wr : World} {m : List UInt8} {a7 ah ak : Option Addr} {c7 ch ck Nb : Nat} (hB : FBuf w1 w.heap.size (.slice a7 (64 * Nb) c7) m ∧ Below w.heap.size w w1) (hN : m.length = 64 * Nb) (h12 : Below w1.heap.size w1 w2) (T : Tab w2 wr 8 64 (.slice ah 8 ch) (.slice ak 64 ck)) :
    ∃ gb gh gk, a7 = some ⟨gb, 0, none⟩ ∧ ah = some ⟨gh, 0, none⟩ ∧ ak = some ⟨gk, 0, none⟩ ∧ 64 * Nb ≤ c7 ∧ 8 ≤ ch ∧ 64 ≤ ck ∧ Base w wr gb gh gk Nb m := by
  obtain ⟨⟨gb, cap, e, h1, h2, h3, h4, _⟩, hb⟩ := hB
  injection e with e1 e2 e3
  subst e1 e3
  have hl8 : (hNums.take 8).length = 8 := by rw [List.length_take, hNums_length]; rfl
  have hl64 : (kNums.take 64).length = 64 := by rw [List.length_take, kNums_length]; rfl
  obtain ⟨gh, rfl, hg1, hg2, hg3, hg4⟩ := T.h.open_ (by rw [hl8]; decide)
  obtain ⟨gk, rfl, hk1, hk2, hk3, hk4⟩ := T.k.open_ (by rw [hl64]; decide)
  have hfree := T.h.free rfl
  have hs := T.below.size
  have hs2 := h12.size
  refine ⟨gb, gh, gk, rfl, rfl, rfl, by omega, hg3, hk3, ⟨⟨fun i hi => ?_, fun i _ => hfree i⟩, fun i hi => ?_, fun i hi => ?_, by omega, ?_, by have := hb.size; omega, by omega, hg2, hk2, (hb.trans (h12.mono hb.size)).trans (T.below.mono (Nat.le_trans hb.size hs2))⟩⟩
  · rw [hg4 i (by omega), root_vals i hi]
    rfl
  · rw [hk4 i (by omega), cube_vals i hi]
    rfl
  · rw [T.below.cell (p := ⟨gb, i, none⟩) (show gb < w2.heap.size by omega), h12.cell (p := ⟨gb, i, none⟩) h2]
    exact h4 i (by omega)
  · intro e
    subst e
    exact T.apart _ rfl rfl

/-- The schedule's numbers, so far. -/
def sList (mm : Nat → UInt8) (j : Nat) : List Nat := (List.range j).map fun i => (sched mm i).toNat
theorem sList_length (mm : Nat → UInt8) (j : Nat) : (sList mm j).length = j := by simp [sList]
theorem sList_next (mm : Nat → UInt8) (j : Nat) : sList mm (j + 1) = sList mm j ++ [(sched mm j).toNat] := by
  simp [sList, List.range_succ]
theorem sList_at (mm : Nat → UInt8) (j i : Nat) (h : i < j) : (sList mm j).getD i 0 = (sched mm i).toNat := by
  unfold sList
  rw [List.getD_eq_getElem?_getD, List.getElem?_map, List.getElem?_range h]
  rfl
open Go.Proofs.Nums in
theorem _root_.Go.Proofs.Nums.NumRow.drew {w : World} {base : Nat} {e : TypeId} {k : IntKind} {v : Value} {l : List Nat} (h : NumRow w base e k v l) : NumRow w.drew base e k v l := h
open Go.Proofs.Nums in
/-- What the schedule's loop keeps. -/
def Rel5 (mm : Nat → UInt8) (w0 : World) (u12 u13 : Value) (wq : World) : Prop :=
  ∃ j : Nat, j ≤ 64 ∧ u13 = .int .i64 (j : Nat) ∧ NumRow wq w0.heap.size 59 .u32 u12 (sList mm j) ∧ Below w0.heap.size w0 wq
/-- What the slots of the schedule's first sixteen hold. -/
def P26 (V S : Value) (gb p j : Nat) (x0 x1 x2 x3 : UInt8) (z : BitVec 32) : List (List Tmp × (Value → World → Prop)) :=
  [([12, 84], fun v _ => v = V), ([3, 85, 94, 105, 116], fun v _ => v = S), ([11, 86, 95, 106, 117], fun v _ => v = .int .i64 (p : Nat)), ([13, 87, 96, 107, 118], fun v _ => v = .int .i64 (j : Nat)),
   ([88, 97, 108, 119], fun v _ => v = .int .i64 (4 * ((j : Nat) : Int))), ([89, 98, 109, 120], fun v _ => v = .int .i64 (((p : Nat) : Int) + 4 * ((j : Nat) : Int))), ([99], fun v _ => v = .int .i64 (((p : Nat) : Int) + 4 * ((j : Nat) : Int) + 1)), ([110], fun v _ => v = .int .i64 (((p : Nat) : Int) + 4 * ((j : Nat) : Int) + 2)), ([121], fun v _ => v = .int .i64 (((p : Nat) : Int) + 4 * ((j : Nat) : Int) + 3)),
   ([90], fun v _ => v = .pointer (some ⟨gb, p + 4 * j, none⟩)), ([100], fun v _ => v = .pointer (some ⟨gb, p + 4 * j + 1, none⟩)), ([111], fun v _ => v = .pointer (some ⟨gb, p + 4 * j + 2, none⟩)), ([122], fun v _ => v = .pointer (some ⟨gb, p + 4 * j + 3, none⟩)),
   ([91], fun v _ => v = .int .u8 ((x0.toNat : Nat) : Int)), ([101], fun v _ => v = .int .u8 ((x1.toNat : Nat) : Int)), ([112], fun v _ => v = .int .u8 ((x2.toNat : Nat) : Int)), ([123], fun v _ => v = .int .u8 ((x3.toNat : Nat) : Int)),
   ([92], fun v _ => v = .int .u32 ((x0.toNat : Nat) : Int)), ([102], fun v _ => v = .int .u32 ((x1.toNat : Nat) : Int)), ([113], fun v _ => v = .int .u32 ((x2.toNat : Nat) : Int)), ([124], fun v _ => v = .int .u32 ((x3.toNat : Nat) : Int)),
   ([93], fun v _ => v = .int .u32 (((x0.toNat : Nat) : Int) * 16777216)), ([103], fun v _ => v = .int .u32 (((x1.toNat : Nat) : Int) * 65536)), ([114], fun v _ => v = .int .u32 (((x2.toNat : Nat) : Int) * 256)),
   ([104], fun v _ => v = .int .u32 (((x0.toNat : Nat) : Int) * 16777216 + ((x1.toNat : Nat) : Int) * 65536)), ([115], fun v _ => v = .int .u32 (((x0.toNat : Nat) : Int) * 16777216 + ((x1.toNat : Nat) : Int) * 65536 + ((x2.toNat : Nat) : Int) * 256)), ([125], fun v _ => v = .int .u32 (Sha.u32 z)),
   ([126], fun v w => ∃ g cap, v = .slice (some ⟨g, 0, none⟩) 1 cap ∧ g < w.heap.size ∧ w.cell? ⟨g, 0, none⟩ = some (.int .u32 (Sha.u32 z)))]
theorem p26_mono (V S : Value) (gb p j : Nat) (x0 x1 x2 x3 : UInt8) (z : BitVec 32) : monoL (P26 V S gb p j x0 x1 x2 x3 z) := by
  unfold P26
  repeat' apply And.intro
  all_goals first | trivial | skip
  all_goals intro v w w' h hb
  all_goals first | exact h | skip
  obtain ⟨g, cap, rfl, h1, h2⟩ := h
  exact ⟨g, cap, rfl, Nat.lt_of_lt_of_le h1 hb.size, by rw [hb.cell (p := ⟨g, 0, none⟩) h1]; exact h2⟩

theorem refTurn_b (x : BitVec 32) (m : Int) (n : Nat) (w : World) (hm : m = (n : Int)) (h1 : 1 ≤ n) (h2 : n ≤ 31) :
    Calls Tryd.prog 31 #[.int .u32 (Sha.u32 x), .int .u64 m] w fun e w' => e = .returned (.int .u32 (Sha.u32 (rot x n))) ∧ Below w.heap.size w w' := by
  subst hm
  refine (refTurn_any x n w h1 h2).mono ?_
  rintro e w' ⟨h, k, rfl⟩
  exact ⟨h, ⟨rfl, rfl, rfl, Nat.le_refl _, fun _ _ => rfl⟩⟩
theorem tdiv8 (x : BitVec 32) : IntKind.u32.wrap ((Sha.u32 x).tdiv 8) = Sha.u32 (x >>> 3) := by
  rw [Int.tdiv_eq_ediv_of_nonneg (u32_nonneg x), shr8 x, IntKind.wrap_u32]
  exact Int.emod_eq_of_lt (u32_nonneg _) (u32_lt _)
theorem tdiv1024 (x : BitVec 32) : IntKind.u32.wrap ((Sha.u32 x).tdiv 1024) = Sha.u32 (x >>> 10) := by
  rw [Int.tdiv_eq_ediv_of_nonneg (u32_nonneg x), shr1024 x, IntKind.wrap_u32]
  exact Int.emod_eq_of_lt (u32_nonneg _) (u32_lt _)
theorem add_wrap (a b : BitVec 32) : IntKind.u32.wrap (Sha.u32 a + Sha.u32 b) = Sha.u32 (a + b) := by rw [IntKind.wrap_u32]; exact add_mod a b
/-- What the slots of the schedule's others hold. -/
def P29 (V : Value) (g j : Nat) (x0 x1 x2 x3 z : BitVec 32) : List (List Tmp × (Value → World → Prop)) :=
  [([12, 138, 139, 153], fun v _ => v = V), ([13, 140, 154], fun v _ => v = .int .i64 (j : Nat)), ([14, 144, 146, 149], fun v _ => v = .int .u32 (Sha.u32 x0)), ([15, 159, 161, 164], fun v _ => v = .int .u32 (Sha.u32 x1)),
   ([141], fun v _ => v = .int .i64 (((j : Nat) : Int) - 16)), ([155], fun v _ => v = .int .i64 (((j : Nat) : Int) - 7)), ([142], fun v _ => v = .pointer (some ⟨g, j - 16, none⟩)), ([156], fun v _ => v = .pointer (some ⟨g, j - 7, none⟩)),
   ([143], fun v _ => v = .int .u32 (Sha.u32 x2)), ([157], fun v _ => v = .int .u32 (Sha.u32 x3)), ([145], fun v _ => v = .int .u32 (Sha.u32 (rot x0 7))), ([147], fun v _ => v = .int .u32 (Sha.u32 (rot x0 18))), ([148], fun v _ => v = .int .u32 (Sha.u32 (rot x0 7 ^^^ rot x0 18))),
   ([150], fun v _ => v = .int .u32 (Sha.u32 (x0 >>> 3))), ([151], fun v _ => v = .int .u32 (Sha.u32 (rot x0 7 ^^^ rot x0 18 ^^^ x0 >>> 3))), ([152], fun v _ => v = .int .u32 (Sha.u32 (x2 + (rot x0 7 ^^^ rot x0 18 ^^^ x0 >>> 3)))),
   ([158], fun v _ => v = .int .u32 (Sha.u32 (x2 + (rot x0 7 ^^^ rot x0 18 ^^^ x0 >>> 3) + x3))), ([160], fun v _ => v = .int .u32 (Sha.u32 (rot x1 17))), ([162], fun v _ => v = .int .u32 (Sha.u32 (rot x1 19))), ([163], fun v _ => v = .int .u32 (Sha.u32 (rot x1 17 ^^^ rot x1 19))),
   ([165], fun v _ => v = .int .u32 (Sha.u32 (x1 >>> 10))), ([166], fun v _ => v = .int .u32 (Sha.u32 (rot x1 17 ^^^ rot x1 19 ^^^ x1 >>> 10))), ([167], fun v _ => v = .int .u32 (Sha.u32 z)),
   ([168], fun v w => ∃ g cap, v = .slice (some ⟨g, 0, none⟩) 1 cap ∧ g < w.heap.size ∧ w.cell? ⟨g, 0, none⟩ = some (.int .u32 (Sha.u32 z)))]
theorem p29_mono (V : Value) (g j : Nat) (x0 x1 x2 x3 z : BitVec 32) : monoL (P29 V g j x0 x1 x2 x3 z) := by
  unfold P29
  repeat' apply And.intro
  all_goals first | trivial | skip
  all_goals intro v w w' h hb
  all_goals first | exact h | skip
  obtain ⟨g, cap, rfl, h1, h2⟩ := h
  exact ⟨g, cap, rfl, Nat.lt_of_lt_of_le h1 hb.size, by rw [hb.cell (p := ⟨g, 0, none⟩) h1]; exact h2⟩
theorem slice_new (w : World) (z : BitVec 32) : ∃ g cap, (Value.slice (some ⟨w.heap.size, 0, none⟩) 1 1) = .slice (some ⟨g, 0, none⟩) 1 cap ∧ g < (w.alloc (.cells #[.int .u32 (Sha.u32 z)] 59)).heap.size ∧ (w.alloc (.cells #[.int .u32 (Sha.u32 z)] 59)).cell? ⟨g, 0, none⟩ = some (.int .u32 (Sha.u32 z)) :=
  ⟨w.heap.size, 1, rfl, by simp, by rw [World.cell?_alloc_mark]; rfl⟩
theorem cell_num {w : World} {g : Nat} {z : BitVec 32} (h : w.cell? ⟨g, 0, none⟩ = some (.int .u32 (Sha.u32 z))) : ∀ j u, (Nums.cellsN .u32 [z.toNat])[j]? = some u → w.cell? ((⟨g, 0, none⟩ : Addr).add j) = some u := by
  intro j u hu
  match j, hu with
  | 0, hu =>
    simp [Nums.cellsN] at hu
    subst hu
    exact h

/-- What the rounds' loop keeps. -/
def Rel6 (mm : Nat → UInt8) (x : H8) (w0 : World) (u16 u17 : Value) (wq : World) : Prop :=
  ∃ (j g c : Nat), j ≤ 64 ∧ u17 = .int .i64 (j : Nat) ∧ u16 = .slice (some ⟨g, 0, none⟩) 8 c ∧ g < wq.heap.size ∧ w0.heap.size ≤ g ∧ 8 ≤ c ∧ Eight wq g 0 (roundsTo KW mm x j) ∧ Below w0.heap.size w0 wq
def h8List (x : H8) : List Nat := [x.a.toNat, x.b.toNat, x.c.toNat, x.d.toNat, x.e.toNat, x.f.toNat, x.g.toNat, x.h.toNat]
theorem h8_src {w : World} {g : Nat} {x : H8} (h : Words w g 8 x.get) : ∀ j u, (Nums.cellsN .u32 (h8List x))[j]? = some u → w.cell? ((⟨g, 0, none⟩ : Addr).add j) = some u := by
  intro j u hu
  have ha : (⟨g, 0, none⟩ : Addr).add j = ⟨g, j, none⟩ := by unfold Addr.add; split <;> simp_all
  rw [ha]
  have hj : j < 8 := by
    have := (List.getElem?_eq_some_iff.1 hu).1
    simpa [Nums.cellsN, h8List] using this
  rw [h.1 j hj, ← hu]
  have hj8 : j = 0 ∨ j = 1 ∨ j = 2 ∨ j = 3 ∨ j = 4 ∨ j = 5 ∨ j = 6 ∨ j = 7 := by omega
  rcases hj8 with rfl | rfl | rfl | rfl | rfl | rfl | rfl | rfl <;> rfl
open Go.Proofs.Nums in
theorem eight_of {w : World} {base : Nat} {e : TypeId} {A : Option Addr} {c : Nat} {x : H8} (h : NumRow w base e .u32 (.slice A 8 c) (h8List x)) : ∃ g, A = some ⟨g, 0, none⟩ ∧ base ≤ g ∧ g < w.heap.size ∧ 8 ≤ c ∧ Eight w g 0 x := by
  obtain ⟨g, hA, h1, h2, h3, h4⟩ := h.open_ (show 0 < (h8List x).length from Nat.zero_lt_succ _)
  have hl : (h8List x).length = 8 := rfl
  rw [hl] at h4
  exact ⟨g, hA, h1, h2, h3, h4 0 (by decide), h4 1 (by decide), h4 2 (by decide), h4 3 (by decide), h4 4 (by decide), h4 5 (by decide), h4 6 (by decide), h4 7 (by decide)⟩
theorem eight_reads {w : World} {g : Nat} {x : H8} (h : Eight w g 0 x) (j : Nat) (hj : j < 8) : w.cell? ⟨g, j, none⟩ = some (.int .u32 (Sha.u32 (x.get j))) := by
  obtain ⟨h0, h1, h2, h3, h4, h5, h6, h7⟩ := h
  have hj8 : j = 0 ∨ j = 1 ∨ j = 2 ∨ j = 3 ∨ j = 4 ∨ j = 5 ∨ j = 6 ∨ j = 7 := by omega
  rcases hj8 with rfl | rfl | rfl | rfl | rfl | rfl | rfl | rfl
  · exact h0
  · exact h1
  · exact h2
  · exact h3
  · exact h4
  · exact h5
  · exact h6
  · exact h7
/-- What the loop that adds the words keeps. -/
def Rel7 (gh gv : Nat) (x y : H8) (w0 : World) (u18 : Value) (wq : World) : Prop :=
  ∃ j : Nat, j ≤ 8 ∧ u18 = .int .i64 (j : Nat) ∧ Words wq gh 8 (fun i => if i < j then x.get i + y.get i else x.get i) ∧ (∀ i, i < 8 → wq.cell? ⟨gv, i, none⟩ = some (.int .u32 (Sha.u32 (y.get i)))) ∧ Upd w0 wq gh (.slice none 0 0) (.slice none 0 0)
theorem rel7_next {gh gv j : Nat} {x y : H8} {w0 wq : World} (hj : j < 8) (hne : gv ≠ gh) (hW : Words wq gh 8 (fun i => if i < j then x.get i + y.get i else x.get i)) (hV : ∀ i, i < 8 → wq.cell? ⟨gv, i, none⟩ = some (.int .u32 (Sha.u32 (y.get i)))) (hU : Upd w0 wq gh (.slice none 0 0) (.slice none 0 0)) (z : BitVec 32) (hz : z = x.get j + y.get j) (u : Value) (hu : u = .int .i64 ((j + 1 : Nat) : Int)) :
    Rel7 gh gv x y w0 u (wq.drew.setCell ⟨gh, j, none⟩ (.int .u32 (Sha.u32 z))) := by
  subst hz hu
  refine ⟨j + 1, by omega, rfl, ((hW.drew).set j hj _).congr ?_, fun i hi => ?_, (hU.drew).put j _⟩
  · intro i _
    show (if i = j then x.get j + y.get j else if i < j then x.get i + y.get i else x.get i) = _
    by_cases e : i = j
    · subst e; simp
    · by_cases l : i < j
      · rw [if_neg e, if_pos l, if_pos (by omega)]
      · rw [if_neg e, if_neg l, if_neg (by omega)]
  · rw [World.cell?_setCell_other _ _ _ _ (by intro e; injection e with e1 e2; exact hne e1.symm)]
    exact hV i hi

theorem byte_cell (z : BitVec 32) (k : Nat) : Sha.u32 z / (k : Int) % 256 = (((UInt8.ofNat (z.toNat / k)).toNat : Nat) : Int) := by
  rw [byte_of, Sha.u32_eq, Int.natCast_ediv]
theorem byte_cell24 (z : BitVec 32) : Sha.u32 z / 16777216 = (((UInt8.ofNat (z.toNat / 16777216)).toNat : Nat) : Int) := by
  have h := byte_cell z 16777216
  have h1 := u32_lt z
  have h2 := u32_nonneg z
  rw [← h]
  show _ = Sha.u32 z / 16777216 % 256
  omega
theorem byte_cell1 (z : BitVec 32) : Sha.u32 z % 256 = (((UInt8.ofNat z.toNat).toNat : Nat) : Int) := by
  rw [byte_of, Sha.u32_eq]

set_option maxHeartbeats 12000000 in
set_option maxRecDepth 100000 in
theorem refSum_any (s : ByteArray) (w : World) (hs : s.size ≤ 1073741824) :
    Calls Tryd.prog 14 #[.string s] w fun e w' => e = .returned (.string ⟨(digest KW H0 (bs s)).toArray⟩) ∧ Below w.heap.size w w' := by
  have kc := fun (w : World) => run_bytes_of_string (P := Tryd.prog) w 9 51 5 s Tryd.underlying9 Tryd.underlying51 Tryd.underlying5
  have hge := Lib.hid (grownCap_ge w s.size 0 5)
  have q0 : (s.size : Int) ≤ 1073741824 := by omega
  go_enter Tryd.func14, Tryd.ntmps14
  go_wp2_with (at_builtin; refine FBuf.wpList_append_one rfl (.tmp 23) (.tmp 24) 51 rfl Tryd.underlying51 info5 (base := w.heap.size) (l := bs s) rfl ?a1 ⟨w.heap.size + 1, 0, none⟩ 1 128 rfl ?a2 ?a3 ?a4 ?_)
  case a1 => exact ((fbuf_new w s _ hge.out _ (Nat.le_refl _)).alloc _ : FBuf _ _ _ _)
  case a2 =>
    have h := At.one (w.alloc (.cells (bytesRow s (grownCap w s.size 0 5)) 5 ((bytesRow s (grownCap w s.size 0 5)).size, (bytesRow s (grownCap w s.size 0 5)).size + 1))) 128 5 128 rfl
    rw [World.size_alloc] at h
    exact h
  case a3 => rw [bs_length]; omega
  case a4 => simp; omega
  intro v1 w1 hb1 hg1
  have hB0 : Below w.heap.size w (((w.alloc (.cells (bytesRow s (grownCap w s.size 0 5)) 5 ((bytesRow s (grownCap w s.size 0 5)).size, (bytesRow s (grownCap w s.size 0 5)).size + 1))).alloc (.cells #[.int .u8 128] 5)).drew) := (((Below.refl _ _).alloc (Nat.le_refl _) _).alloc (by simp) _).drew
  have hB1 : Below w.heap.size w w1 := hB0.grown hg1 (by simp; omega) (fun k hk => by simp [Value.ownBlock] at hk; omega)
  have HB1 := Lib.hid (And.intro hb1 hB1)
  clear hb1 hg1 hB0 hB1 kc
  go_wp2_with fail
  go_loopw [3] (fun u3 wr => ∃ (k : Nat), k ≤ fillOf s.size ∧ FBuf wr w.heap.size u3 (refTo (bs s) k) ∧ Below w.heap.size w wr) (fun u3 _ => s.size + 128 - lenV u3)
  case atStart => exact ⟨0, Nat.zero_le _, HB1.out.1, HB1.out.2⟩
  case round =>
    clear HB1
    obtain ⟨k, hk, hb3, hB3⟩ := hrel
    have hx : ∃ a3 c3, u3 = .slice a3 (refTo (bs s) k).length c3 := hb3.len
    obtain ⟨a3, c3, rfl⟩ := hx
    have hf : fillOf s.size = (119 - s.size % 64) % 64 := rfl
    have hel : (refTo (bs s) k).length = s.size + 1 + k := by rw [refTo_length, bs_length]
    generalize hN : (refTo (bs s) k).length = N at hel hb3
    have NN := Lib.hid (And.intro hN (And.intro hel hf))
    by_cases hlt : k < fillOf s.size
    · have t1 : ((N : Int) % 64 == 56) = false := by
        have : ¬ ((N : Int) % 64 = 56) := by omega
        simpa using this
      have t2 : ((N : Int) % 64 != 56) = true := by simp [t1, bne]
      have t3 : (N : Int) ≤ 1073742000 := by omega
      clear hN hel hf
      have HB := Lib.hid (And.intro hb3 hB3)
      clear hb3 hB3
      go_wp2_with (at_builtin; refine FBuf.wpList_append_one rfl (.tmp 30) (.tmp 31) 51 rfl Tryd.underlying51 info5 rfl (HB.out.1.alloc _) ⟨wr.heap.size, 0, none⟩ 1 0 rfl ?e1 ?e2 ?e3 ?_)
      case e1 => exact At.one _ _ _ _ rfl
      case e2 => rw [NN.out.1]; omega
      case e3 => simp; exact Nat.le_succ_of_le HB.out.2.size
      intro v3 w3 hb4 hg4
      have hB4 : Below w.heap.size w w3 := FBuf.grown_below (HB.out.2.alloc HB.out.2.size _) (by simp; exact Nat.le_succ_of_le HB.out.2.size) (HB.out.1.alloc _) hg4
      rw [← refTo_next] at hb4
      have hx : ∃ a4 c4, v3 = .slice a4 (refTo (bs s) (k + 1)).length c4 := hb4.len
      obtain ⟨a4, c4, hv4⟩ := hx
      have hb5 := Lib.hid hb4
      clear hb4 hg4
      go_wp2_with fail
      go_roundw
      case rel => exact ⟨k + 1, by omega, hb5.out, hB4⟩
      case measure =>
        rw [hv4]
        show s.size + 128 - (refTo (bs s) (k + 1)).length < s.size + 128 - N
        have h1 := refTo_length (bs s) (k + 1)
        rw [bs_length] at h1
        have h2 := NN.out.2.1
        have h3 := NN.out.2.2
        omega
    · have hk' : k = fillOf s.size := by omega
      have t1 : ((N : Int) % 64 == 56) = true := by
        have : ((N : Int) % 64 = 56) := by omega
        simpa using this
      have t2 : ((N : Int) % 64 != 56) = false := by simp [t1, bne]
      clear hN hel hf
      have HB := Lib.hid (And.intro hb3 hB3)
      clear hb3 hB3
      subst hk'
      have hb6 : FBuf wr w.heap.size (.slice a3 N c3) (refBits (bs s) 0) := by
        unfold refBits
        rw [List.take_zero, List.append_nil, bs_length]
        exact HB.out.1
      go_wp2_with fail
      go_loopw [3, 5] (fun u3 u5 wr => ∃ (j : Nat), j ≤ 8 ∧ u5 = .int .i64 (j : Nat) ∧ FBuf wr w.heap.size u3 (refBits (bs s) j) ∧ Below w.heap.size w wr) (fun _ u5 _ => 8 - (intOf u5).toNat)
      case atStart => exact ⟨0, by omega, rfl, hb6, HB.out.2⟩
      case round =>
        clear hb6 HB NN hlt hk t1 t2
        obtain ⟨j, hj, rfl, hb7, hB7⟩ := hrel
        have hx : ∃ a7 c7, u3 = .slice a7 (refBits (bs s) j).length c7 := hb7.len
        obtain ⟨a7, c7, rfl⟩ := hx
        by_cases hlt : j < 8
        · obtain ⟨i, hi⟩ : ∃ i : Nat, i + j = 7 := ⟨7 - j, by omega⟩
          have ei : 56 - 8 * (j : Int) = ((8 * i : Nat) : Int) := by omega
          have hi2 := Lib.hid hi
          have q1 : (j : Int) < 8 := by omega
          have q2 : (0 : Int) ≤ ((8 * i : Nat) : Int) := by omega
          have q3 : ((8 * i : Nat) : Int) ≤ 56 := by omega
          generalize h8 : 8 * i = i8 at ei q2 q3
          have h8' := Lib.hid h8
          clear hi h8
          have HB := Lib.hid (And.intro hb7 hB7)
          clear hb7 hB7
          go_wp2_with (at_builtin; refine FBuf.wpList_append_one rfl (.tmp 41) (.tmp 49) 51 rfl Tryd.underlying51 info5 rfl (HB.out.1.alloc _) ⟨wr.heap.size, 0, none⟩ 1 (UInt8.ofNat ((8 * s.size) / 2 ^ (8 * i))) rfl ?f1 ?f2 ?f3 ?_)
          case f1 =>
            refine At.one _ _ _ _ ?_
            rw [← h8'.out, Int.mul_comm]
            exact bits_byte _ _
          case f2 =>
            rw [refBits_length _ _ hj, bs_length]
            have : fillOf s.size < 64 := Nat.mod_lt _ (by decide)
            omega
          case f3 => simp; exact Nat.le_succ_of_le HB.out.2.size
          intro v8 w8 hb8 hg8
          have hB8 : Below w.heap.size w w8 := FBuf.grown_below (HB.out.2.alloc HB.out.2.size _) (by simp; exact Nat.le_succ_of_le HB.out.2.size) (HB.out.1.alloc _) hg8
          have e8 : refBits (bs s) j ++ [UInt8.ofNat ((8 * s.size) / 2 ^ (8 * i))] = refBits (bs s) (j + 1) := by
            unfold refBits
            rw [be8_at _ _ hlt, show 7 - j = i by have := hi2.out; omega, List.append_assoc, bs_length]
          rw [e8] at hb8
          have hb9 := Lib.hid hb8
          clear hb8 hg8 e8
          go_wp2_with fail
          go_roundw
          case rel => exact ⟨j + 1, by omega, by go_num, hb9.out, hB8⟩
          case measure => simp [intOf]; omega
        · obtain rfl : j = 8 := by omega
          have hm : refBits (bs s) 8 = bs s ++ tailOf (bs s).length := refBits_all (bs s)
          have hm2 : (refBits (bs s) 8).length = s.size + 1 + fillOf s.size + 8 := by rw [refBits_length (bs s) 8 (Nat.le_refl _), bs_length]
          have hfl : fillOf s.size = (119 - s.size % 64) % 64 := rfl
          obtain ⟨Nb, hNb⟩ : ∃ Nb, (refBits (bs s) 8).length = 64 * Nb := ⟨(refBits (bs s) 8).length / 64, by rw [hm2, hfl]; omega⟩
          have hNb2 : 64 * Nb ≤ 1073742000 := by rw [← hNb, hm2, hfl]; omega
          generalize hme : refBits (bs s) 8 = m at hNb hb7 hm ⊢
          rw [hNb] at hb7 ⊢
          have HM := Lib.hid (And.intro hm (And.intro hNb hNb2))
          have HB := Lib.hid (And.intro hb7 hB7)
          clear hm hm2 hfl hNb hNb2 hme hb7 hB7
          go_wp2_with fail
          refine (primes_any _).mono ?_
          rintro e w2 ⟨vp, rfl, hp, hb2⟩
          have hx : ∃ ap cp, vp = .slice ap prime64.length cp := hp.len
          obtain ⟨ap, cp, rfl⟩ := hx
          rw [prime64_length] at hp ⊢
          have HP := Lib.hid (And.intro hp hb2)
          clear hp hb2
          go_wp2_with fail
          go_loopw [7, 8, 9, 10, 54] (fun u7 u8 _ _ u54 wq => ∃ (j a : Nat), j ≤ 64 ∧ a = min j 8 ∧ u54 = .int .i64 (j : Nat) ∧ Tab w2 wq a j u7 u8) (fun _ _ _ _ u54 _ => 64 - (intOf u54).toNat)
          case atStart => exact ⟨0, 0, by omega, rfl, rfl, tab_start w2⟩
          case round =>
            obtain ⟨j, a, hj, ha, rfl, T⟩ := hrel
            have hx : ∃ ah ch, u7 = .slice ah (hNums.take a).length ch := T.h.len
            obtain ⟨ah, ch, rfl⟩ := hx
            have hx : ∃ ak ck, u8 = .slice ak (kNums.take j).length ck := T.k.len
            obtain ⟨ak, ck, rfl⟩ := hx
            have hal : a ≤ 64 := by omega
            rw [List.length_take, List.length_take, hNums_length, kNums_length, Nat.min_eq_left hal, Nat.min_eq_left hj] at T ⊢
            by_cases hlt : j < 64
            · obtain ⟨gp, rfl, _, hgp, _, hcp⟩ := HP.out.1.open_ (by rw [prime64_length]; decide)
              have cp0 : wr.cell? ⟨gp, j, none⟩ = some (.int .u64 ((prime64.getD j 0 : Nat) : Int)) := by
                rw [T.below.cell (p := ⟨gp, j, none⟩) hgp]
                exact hcp j (by rw [prime64_length]; exact hlt)
              have hps := prime64_small j hlt
              have HG := Lib.hid (And.intro T (And.intro (fun w' => @Tab.h_next w2 wr w' a j) (fun w' => @Tab.k_next w2 wr w' a j)))
              generalize hpj : prime64.getD j 0 = pj at cp0 hps
              have HPJ := Lib.hid hpj
              have q1 : (j : Int) < 64 := by omega
              clear hcp hpj
              have HT := Lib.hid T
              clear T HG
              by_cases h8 : j < 8
              · obtain rfl : a = j := by omega
                have q2 : (a : Int) < 8 := by omega
                clear ha
                go_wp2_with fail
                refine (root_any pj _).mono ?_
                rintro e w' ⟨rfl, rfl⟩
                go_wp2_with (at_builtin; refine Nums.wpList_append_at rfl (.tmp 61) (.tmp 64) 58 rfl Tryd.underlying58 .u32 4 (by decide) info59 rfl (HT.out.h.alloc _) ⟨wr.heap.size, 0, none⟩ 1 1 [rootTo pj 37 % 4294967296] rfl rfl ?g1 ?g2 ?g3 ?_)
                case g1 => first | exact fun _ _ h => h | exact Nums.one_new _ _ _ _ rfl _
                case g2 => simp; omega
                case g3 => first | exact Nat.le_succ_of_le HT.out.below.size | (simp; exact Nat.le_succ_of_le HT.out.below.size)
                intro v5 w5 hn5 hg5 hat5
                rw [← HPJ.out] at hn5
                have HT5 := Lib.hid (HT.out.h_next hlt hg5 hn5 hat5)
                clear hn5 hg5 hat5
                go_wp2_with fail
                refine (cube_any pj _ hps).mono ?_
                rintro e w' ⟨rfl, rfl⟩
                go_wp2_with (at_builtin; refine Nums.wpList_append_at rfl (.tmp 66) (.tmp 69) 58 rfl Tryd.underlying58 .u32 4 (by decide) info59 rfl (HT5.out.k.alloc _) ⟨w5.heap.size, 0, none⟩ 1 1 [cubeTo pj 36 % 4294967296] rfl rfl ?i1 ?i2 ?i3 ?_)
                case i1 => first | exact fun _ _ h => h | exact Nums.one_new _ _ _ _ rfl _
                case i2 => simp; omega
                case i3 => first | exact Nat.le_succ_of_le HT5.out.below.size | (simp; exact Nat.le_succ_of_le HT5.out.below.size)
                intro v6 w6 hn6 hg6 hat6
                rw [← HPJ.out] at hn6
                have HT6 := Lib.hid (HT5.out.k_next hlt hg6 hn6 hat6)
                clear hn6 hg6 hat6
                go_wp2_with fail
                go_roundw
                case rel => exact ⟨a + 1, a + 1, by omega, by omega, by go_num, HT6.out⟩
                case measure => simp [intOf]; omega
              · have q2 : (8 : Int) ≤ (j : Int) := by omega
                obtain rfl : a = 8 := by omega
                clear ha
                go_wp2_with fail
                refine (cube_any pj _ hps).mono ?_
                rintro e w' ⟨rfl, rfl⟩
                go_wp2_with (at_builtin; refine Nums.wpList_append_at rfl (.tmp 66) (.tmp 69) 58 rfl Tryd.underlying58 .u32 4 (by decide) info59 rfl (HT.out.k.alloc _) ⟨wr.heap.size, 0, none⟩ 1 1 [cubeTo pj 36 % 4294967296] rfl rfl ?j1 ?j2 ?j3 ?_)
                case j1 => first | exact fun _ _ h => h | exact Nums.one_new _ _ _ _ rfl _
                case j2 => simp; omega
                case j3 => first | exact Nat.le_succ_of_le HT.out.below.size | (simp; exact Nat.le_succ_of_le HT.out.below.size)
                intro v6 w6 hn6 hg6 hat6
                rw [← HPJ.out] at hn6
                have HT6 := Lib.hid (HT.out.k_next hlt hg6 hn6 hat6)
                clear hn6 hg6 hat6
                go_wp2_with fail
                go_roundw
                case rel => exact ⟨j + 1, 8, by omega, by omega, by go_num, HT6.out⟩
                case measure => simp [intOf]; omega
            · obtain rfl : j = 64 := by omega
              obtain rfl : a = 8 := by omega
              clear ha
              have h0N : 0 < Nb := by
                have h1 := HM.out.2.1
                rw [HM.out.1, List.length_append, tailOf_length] at h1
                omega
              obtain ⟨gb, gh, gk, rfl, rfl, rfl, hc7, hch, hck, hBase⟩ := base_of HB.out HM.out.2.1 HP.out.2 T
              have HBs := Lib.hid hBase
              clear T hBase
              go_wp2_with fail
              go_loopw [11] (fun u11 wq => ∃ nb : Nat, nb ≤ Nb ∧ u11 = .int .i64 ((64 * nb : Nat) : Int) ∧ Words wq gh 8 (blocks KW H0 m nb).get ∧ Upd wr wq gh (.slice none 0 0) (.slice none 0 0)) (fun u11 _ => 64 * Nb - (intOf u11).toNat)
              case atStart => exact ⟨0, by omega, rfl, HBs.out.words, Upd.refl _ _ _⟩
              case round =>
                obtain ⟨nb, hnb, rfl, hW, hU⟩ := hrel
                by_cases hlt : nb < Nb
                · have hMb : ∀ i, i < 64 → wr.cell? ⟨gb, 64 * nb + i, none⟩ = some (.int .u8 (((bytesFrom m (64 * nb) i).toNat : Nat) : Int)) := fun i hi =>
                    (World.cell?_of_block (a := ⟨gb, 64 * nb + i, none⟩) (hU.block gb HBs.out.hb HBs.out.gbh (by simp [Value.ownBlock]))).trans (HBs.out.bytes _ (by omega))
                  have hKb : ∀ i, i < 64 → wr.cell? ⟨gk, i, none⟩ = some (.int .u32 (Sha.u32 (KW i))) := fun i hi =>
                    (World.cell?_of_block (a := ⟨gk, i, none⟩) (hU.block gk HBs.out.hk HBs.out.gkh (by simp [Value.ownBlock]))).trans (HBs.out.tab i hi)
                  have hbs : gb < wr.heap.size := Nat.lt_of_lt_of_le HBs.out.hb hU.size
                  have hks : gk < wr.heap.size := Nat.lt_of_lt_of_le HBs.out.hk hU.size
                  have hhs : gh < wr.heap.size := Nat.lt_of_lt_of_le HBs.out.hh hU.size
                  have hNbb := HM.out.2.2
                  generalize hmm : bytesFrom m (64 * nb) = mm at hMb
                  have HMM := Lib.hid hmm
                  generalize hp : 64 * nb = p at hMb
                  have HPP := Lib.hid hp
                  have p0 : (p : Int) ≤ 1073742000 := by omega
                  have p1 : (p : Int) < 64 * (Nb : Int) := by omega
                  have p2 : (p : Int) + 64 ≤ ((64 * Nb : Nat) : Int) := by omega
                  have HI := Lib.hid (And.intro hW hU)
                  have HCC := Lib.hid (And.intro hMb hKb)
                  clear hW hU hMb hKb hmm hp
                  go_wp2_with fail
                  go_loopw [12, 13, 14, 15] (fun u12 u13 _ _ wq => Rel5 mm wr u12 u13 wq) (fun _ u13 _ _ _ => 64 - (intOf u13).toNat)
                  case atStart => exact ⟨0, by omega, rfl, Nums.NumRow.nil _ _ _ _, Below.refl _ _⟩
                  case round =>
                    obtain ⟨j, hj, rfl, hn5, hb5⟩ := hrel
                    have hx : ∃ a12 c12, u12 = .slice a12 (sList mm j).length c12 := hn5.len
                    obtain ⟨a12, c12, rfl⟩ := hx
                    rw [sList_length] at hn5 ⊢
                    have HN5 := Lib.hid (And.intro hn5 hb5)
                    by_cases hlt5 : j < 64
                    · have j0 : (j : Int) < 64 := by omega
                      have j1 : (0 : Int) ≤ (j : Int) := by omega
                      have hbs5 : gb < wr.heap.size := Nat.lt_of_lt_of_le hbs hb5.size
                      by_cases h16 : j < 16
                      · have j2 : (j : Int) < 16 := by omega
                        have cm : ∀ (i : Nat), i < 64 → wr.cell? ⟨gb, p + i, none⟩ = some (.int .u8 (((mm i).toNat : Nat) : Int)) := fun i hi => by
                          rw [hb5.cell (p := ⟨gb, p + i, none⟩) hbs]
                          exact HCC.out.1 i hi
                        have c0 := cm (4 * j) (by omega)
                        have c1 := cm (4 * j + 1) (by omega)
                        have c2 := cm (4 * j + 2) (by omega)
                        have c3 := cm (4 * j + 3) (by omega)
                        have hw := Lib.hid (show sched mm j = word4 mm j from sched_word mm j h16)
                        rw [show word4 mm j = BitVec.ofNat 32 ((mm (4 * j)).toNat * 16777216 + (mm (4 * j + 1)).toNat * 65536 + (mm (4 * j + 2)).toNat * 256 + (mm (4 * j + 3)).toNat) from rfl] at hw
                        generalize mm (4 * j) = x0 at c0 hw
                        generalize mm (4 * j + 1) = x1 at c1 hw
                        generalize mm (4 * j + 2) = x2 at c2 hw
                        generalize mm (4 * j + 3) = x3 at c3 hw
                        have HCB := Lib.hid (And.intro c0 (And.intro c1 (And.intro c2 c3)))
                        clear cm c0 c1 c2 c3 hn5 hb5
                        have hpN : p + 64 ≤ 64 * Nb := by omega
                        have v0 := x0.toNat_lt
                        have v1' := x1.toNat_lt
                        have v2' := x2.toNat_lt
                        have v3' := x3.toNat_lt
                        have n4 : IntKind.i64.wrap (4 * (j : Int)) = 4 * (j : Int) := IntWalk.i64_in _ (by omega)
                        have n5 : IntKind.i64.wrap ((p : Int) + 4 * (j : Int)) = (p : Int) + 4 * (j : Int) := IntWalk.i64_in _ (by omega)
                        have n6 : IntKind.i64.wrap ((p : Int) + 4 * (j : Int) + 1) = (p : Int) + 4 * (j : Int) + 1 := IntWalk.i64_in _ (by omega)
                        have n7 : IntKind.i64.wrap ((p : Int) + 4 * (j : Int) + 2) = (p : Int) + 4 * (j : Int) + 2 := IntWalk.i64_in _ (by omega)
                        have n8 : IntKind.i64.wrap ((p : Int) + 4 * (j : Int) + 3) = (p : Int) + 4 * (j : Int) + 3 := IntWalk.i64_in _ (by omega)
                        have o5 : ((p : Int) + 4 * (j : Int)).toNat = p + 4 * j := by omega
                        have o6 : ((p : Int) + 4 * (j : Int) + 1).toNat = p + 4 * j + 1 := by omega
                        have o7 : ((p : Int) + 4 * (j : Int) + 2).toNat = p + 4 * j + 2 := by omega
                        have o8 : ((p : Int) + 4 * (j : Int) + 3).toNat = p + 4 * j + 3 := by omega
                        have r5 : (0 : Int) ≤ (p : Int) + 4 * (j : Int) := by omega
                        have r6 : (0 : Int) ≤ (p : Int) + 4 * (j : Int) + 1 := by omega
                        have r7 : (0 : Int) ≤ (p : Int) + 4 * (j : Int) + 2 := by omega
                        have r8 : (0 : Int) ≤ (p : Int) + 4 * (j : Int) + 3 := by omega
                        have z5 : (p : Int) + 4 * (j : Int) < 64 * (Nb : Int) := by omega
                        have z6 : (p : Int) + 4 * (j : Int) + 1 < 64 * (Nb : Int) := by omega
                        have z7 : (p : Int) + 4 * (j : Int) + 2 < 64 * (Nb : Int) := by omega
                        have z8 : (p : Int) + 4 * (j : Int) + 3 < 64 * (Nb : Int) := by omega
                        have y0 : IntKind.u32.wrap ((x0.toNat : Nat) : Int) = ((x0.toNat : Nat) : Int) := by rw [IntKind.wrap_u32]; omega
                        have y1 : IntKind.u32.wrap ((x1.toNat : Nat) : Int) = ((x1.toNat : Nat) : Int) := by rw [IntKind.wrap_u32]; omega
                        have y2 : IntKind.u32.wrap ((x2.toNat : Nat) : Int) = ((x2.toNat : Nat) : Int) := by rw [IntKind.wrap_u32]; omega
                        have y3 : IntKind.u32.wrap ((x3.toNat : Nat) : Int) = ((x3.toNat : Nat) : Int) := by rw [IntKind.wrap_u32]; omega
                        have y4 : IntKind.u32.wrap (((x0.toNat : Nat) : Int) * 16777216) = ((x0.toNat : Nat) : Int) * 16777216 := by rw [IntKind.wrap_u32]; omega
                        have y5 : IntKind.u32.wrap (((x1.toNat : Nat) : Int) * 65536) = ((x1.toNat : Nat) : Int) * 65536 := by rw [IntKind.wrap_u32]; omega
                        have y6 : IntKind.u32.wrap (((x2.toNat : Nat) : Int) * 256) = ((x2.toNat : Nat) : Int) * 256 := by rw [IntKind.wrap_u32]; omega
                        have y7 : IntKind.u32.wrap (((x0.toNat : Nat) : Int) * 16777216 + ((x1.toNat : Nat) : Int) * 65536) = ((x0.toNat : Nat) : Int) * 16777216 + ((x1.toNat : Nat) : Int) * 65536 := by rw [IntKind.wrap_u32]; omega
                        have y8 : IntKind.u32.wrap (((x0.toNat : Nat) : Int) * 16777216 + ((x1.toNat : Nat) : Int) * 65536 + ((x2.toNat : Nat) : Int) * 256) = ((x0.toNat : Nat) : Int) * 16777216 + ((x1.toNat : Nat) : Int) * 65536 + ((x2.toNat : Nat) : Int) * 256 := by rw [IntKind.wrap_u32]; omega
                        have y9 : IntKind.u32.wrap (((x0.toNat : Nat) : Int) * 16777216 + ((x1.toNat : Nat) : Int) * 65536 + ((x2.toNat : Nat) : Int) * 256 + ((x3.toNat : Nat) : Int)) = Sha.u32 (sched mm j) := by
                          rw [IntKind.wrap_u32, hw.out, Sha.u32_eq, BitVec.toNat_ofNat]
                          omega
                        go_wp2_with fail
                        refine region_inv_head 43 (slotT (P26 (.slice a12 j c12) (.slice (some ⟨gb, 0, none⟩) (64 * Nb) c7) gb p j x0 x1 x2 x3 (sched mm j))) [3, 11, 12, 13] (by kernel_rfl) (by kernel_rfl) (by kernel_rfl) (by kernel_rfl) ?_ (slotT_mono (p26_mono _ _ _ _ _ _ _ _ _ _)) ?_ ?_
                        · exact ⟨⟨_, rfl, rfl⟩, ⟨_, rfl, rfl⟩, ⟨_, rfl, rfl⟩, ⟨_, rfl, rfl⟩, trivial⟩
                        · go_light
                          refine ⟨?_, ?_, ?_, ?_, ?_, ?_, ?_, ?_, ?_, ?_, ?_, ?_, ?_, ?_, ?_, ?_, ?_, ?_, ?_, ?_, ?_, ?_, ?_, ?_, ?_, ?_, ?_, ?_, ?_, ?_, ?_, ?_, ?_, ?_, ?_, ?_, ?_, ?_, ?_, ?_, ?_, ?_, ?_, trivial⟩
                          all_goals refine step_open rfl ?_
                          all_goals (intro a w' hb hs hl; clear hs; repeat (first | (obtain ⟨⟨_, e, rfl⟩, hl⟩ := hl) | (obtain ⟨⟨_, e, h⟩, hl⟩ := hl)))
                          all_goals (have k0 := (hb.cell (p := ⟨gb, p + 4 * j, none⟩) hbs5).trans HCB.out.1; have k1 := (hb.cell (p := ⟨gb, p + 4 * j + 1, none⟩) hbs5).trans HCB.out.2.1; have k2 := (hb.cell (p := ⟨gb, p + 4 * j + 2, none⟩) hbs5).trans HCB.out.2.2.1; have k3 := (hb.cell (p := ⟨gb, p + 4 * j + 3, none⟩) hbs5).trans HCB.out.2.2.2; clear hb)
                          all_goals ((try clear hl); unfold Oper.wp; go_simp)
                          all_goals first | exact ⟨_, rfl, Below.refl _ _, rfl⟩ | skip
                          exact ⟨_, rfl, (Below.refl _ _).alloc (Nat.le_refl _) _, slice_new _ _⟩
                        · intro a w' hb hsm hd
                          obtain ⟨_, e84, rfl⟩ := hd 84 (by decide)
                          obtain ⟨f85, e85, -⟩ := hd 85 (by decide)
                          obtain ⟨f86, e86, -⟩ := hd 86 (by decide)
                          obtain ⟨f87, e87, -⟩ := hd 87 (by decide)
                          obtain ⟨f88, e88, -⟩ := hd 88 (by decide)
                          obtain ⟨f89, e89, -⟩ := hd 89 (by decide)
                          obtain ⟨f90, e90, -⟩ := hd 90 (by decide)
                          obtain ⟨f91, e91, -⟩ := hd 91 (by decide)
                          obtain ⟨f92, e92, -⟩ := hd 92 (by decide)
                          obtain ⟨f93, e93, -⟩ := hd 93 (by decide)
                          obtain ⟨f94, e94, -⟩ := hd 94 (by decide)
                          obtain ⟨f95, e95, -⟩ := hd 95 (by decide)
                          obtain ⟨f96, e96, -⟩ := hd 96 (by decide)
                          obtain ⟨f97, e97, -⟩ := hd 97 (by decide)
                          obtain ⟨f98, e98, -⟩ := hd 98 (by decide)
                          obtain ⟨f99, e99, -⟩ := hd 99 (by decide)
                          obtain ⟨f100, e100, -⟩ := hd 100 (by decide)
                          obtain ⟨f101, e101, -⟩ := hd 101 (by decide)
                          obtain ⟨f102, e102, -⟩ := hd 102 (by decide)
                          obtain ⟨f103, e103, -⟩ := hd 103 (by decide)
                          obtain ⟨f104, e104, -⟩ := hd 104 (by decide)
                          obtain ⟨f105, e105, -⟩ := hd 105 (by decide)
                          obtain ⟨f106, e106, -⟩ := hd 106 (by decide)
                          obtain ⟨f107, e107, -⟩ := hd 107 (by decide)
                          obtain ⟨f108, e108, -⟩ := hd 108 (by decide)
                          obtain ⟨f109, e109, -⟩ := hd 109 (by decide)
                          obtain ⟨f110, e110, -⟩ := hd 110 (by decide)
                          obtain ⟨f111, e111, -⟩ := hd 111 (by decide)
                          obtain ⟨f112, e112, -⟩ := hd 112 (by decide)
                          obtain ⟨f113, e113, -⟩ := hd 113 (by decide)
                          obtain ⟨f114, e114, -⟩ := hd 114 (by decide)
                          obtain ⟨f115, e115, -⟩ := hd 115 (by decide)
                          obtain ⟨f116, e116, -⟩ := hd 116 (by decide)
                          obtain ⟨f117, e117, -⟩ := hd 117 (by decide)
                          obtain ⟨f118, e118, -⟩ := hd 118 (by decide)
                          obtain ⟨f119, e119, -⟩ := hd 119 (by decide)
                          obtain ⟨f120, e120, -⟩ := hd 120 (by decide)
                          obtain ⟨f121, e121, -⟩ := hd 121 (by decide)
                          obtain ⟨f122, e122, -⟩ := hd 122 (by decide)
                          obtain ⟨f123, e123, -⟩ := hd 123 (by decide)
                          obtain ⟨f124, e124, -⟩ := hd 124 (by decide)
                          obtain ⟨f125, e125, -⟩ := hd 125 (by decide)
                          obtain ⟨_, e126, gs, caps, rfl, hgs, hcs⟩ := hd 126 (by decide)
                          have hA := sameH_put hsm [(84, .slice a12 j c12), (85, f85), (86, f86), (87, f87), (88, f88), (89, f89), (90, f90), (91, f91), (92, f92), (93, f93), (94, f94), (95, f95), (96, f96), (97, f97), (98, f98), (99, f99), (100, f100), (101, f101), (102, f102), (103, f103), (104, f104), (105, f105), (106, f106), (107, f107), (108, f108), (109, f109), (110, f110), (111, f111), (112, f112), (113, f113), (114, f114), (115, f115), (116, f116), (117, f117), (118, f118), (119, f119), (120, f120), (121, f121), (122, f122), (123, f123), (124, f124), (125, f125), (126, .slice (some ⟨gs, 0, none⟩) 1 caps)] ⟨e84, e85, e86, e87, e88, e89, e90, e91, e92, e93, e94, e95, e96, e97, e98, e99, e100, e101, e102, e103, e104, e105, e106, e107, e108, e109, e110, e111, e112, e113, e114, e115, e116, e117, e118, e119, e120, e121, e122, e123, e124, e125, e126, trivial⟩ (by kernel_rfl)
                          clear hsm hd e84 e85 e86 e87 e88 e89 e90 e91 e92 e93 e94 e95 e96 e97 e98 e99 e100 e101 e102 e103 e104 e105 e106 e107 e108 e109 e110 e111 e112 e113 e114 e115 e116 e117 e118 e119 e120 e121 e122 e123 e124 e125 e126
                          subst hA
                          have HB6 := Lib.hid (HN5.out.2.drew.trans (hb.mono HN5.out.2.size))
                          have HN6 := Lib.hid (HN5.out.1.drew.below hb)
                          have HCS := Lib.hid hcs
                          clear hb hcs
                          simp only [List.foldl, List.drop_succ_cons, List.drop_zero, Act.put, List.setIfInBounds_toArray, List.set_cons_succ, List.set_cons_zero]
                          go_wp2_with (at_builtin; refine Nums.wpList_append rfl (.tmp 84) (.tmp 126) 58 rfl Tryd.underlying58 .u32 4 (by decide) info59 rfl HN6.out ⟨gs, 0, none⟩ 1 caps [(sched mm j).toNat] rfl rfl ?k1 ?k2 ?k3 ?_)
                          case k1 => exact cell_num HCS.out
                          case k2 => rw [sList_length]; omega
                          case k3 => exact HB6.out.size
                          intro v7 w7 hn7 hg7
                          rw [← sList_next] at hn7
                          have HB7 := Lib.hid (Nums.grown_below HB6.out HB6.out.size HN6.out hg7)
                          have HN7 := Lib.hid hn7
                          clear hn7 hg7
                          go_wp2_with fail
                          refine ⟨?_, ?measure⟩
                          repeat apply Exists.intro
                          refine ⟨?rel, rfl⟩
                          case rel =>
                            go_light
                            exact ⟨j + 1, by omega, by go_num, HN7.out, HB7.out⟩
                          case measure =>
                            go_light
                            simp [intOf]
                            omega
                      · obtain ⟨g12, rfl, _, hg12, hjc, hcc⟩ := hn5.open_ (by rw [sList_length]; omega)
                        rw [sList_length] at hcc
                        have j3 : (15 : Int) ≤ (j : Int) := by omega
                        have j4 : (2 : Int) ≤ (j : Int) := by omega
                        have j5 : (16 : Int) ≤ (j : Int) := by omega
                        have j6 : (7 : Int) ≤ (j : Int) := by omega
                        have q0 : (0 : Int) ≤ (j : Int) - 15 := by omega
                        have q1 : (j : Int) - 15 < (j : Int) := by omega
                        have q2 : (0 : Int) ≤ (j : Int) - 2 := by omega
                        have q3 : (j : Int) - 2 < (j : Int) := by omega
                        have q4 : (0 : Int) ≤ (j : Int) - 16 := by omega
                        have q5 : (j : Int) - 16 < (j : Int) := by omega
                        have q6 : (0 : Int) ≤ (j : Int) - 7 := by omega
                        have q7 : (j : Int) - 7 < (j : Int) := by omega
                        have w0 : IntKind.i64.wrap ((j : Int) - 15) = (j : Int) - 15 := IntWalk.i64_in _ (by omega)
                        have w1 : IntKind.i64.wrap ((j : Int) - 2) = (j : Int) - 2 := IntWalk.i64_in _ (by omega)
                        have w2 : IntKind.i64.wrap ((j : Int) - 16) = (j : Int) - 16 := IntWalk.i64_in _ (by omega)
                        have w3 : IntKind.i64.wrap ((j : Int) - 7) = (j : Int) - 7 := IntWalk.i64_in _ (by omega)
                        have o0 : ((j : Int) - 15).toNat = j - 15 := by omega
                        have o1 : ((j : Int) - 2).toNat = j - 2 := by omega
                        have o2 : ((j : Int) - 16).toNat = j - 16 := by omega
                        have o3 : ((j : Int) - 7).toNat = j - 7 := by omega
                        have cm : ∀ i, i < j → wr.cell? ⟨g12, i, none⟩ = some (.int .u32 (Sha.u32 (sched mm i))) := fun i hi => by
                          rw [hcc i hi, sList_at mm j i hi]
                          rfl
                        have c0 := cm (j - 15) (by omega)
                        have c1 := cm (j - 2) (by omega)
                        have c2 := cm (j - 16) (by omega)
                        have c3 := cm (j - 7) (by omega)
                        have hw := Lib.hid (sched_next mm j (by omega))
                        generalize sched mm (j - 15) = x0 at c0 hw
                        generalize sched mm (j - 2) = x1 at c1 hw
                        generalize sched mm (j - 16) = x2 at c2 hw
                        generalize sched mm (j - 7) = x3 at c3 hw
                        have HCB := Lib.hid (And.intro c2 c3)
                        clear cm hcc hn5 hb5
                        go_wp2_with fail
                        refine region_inv_head 31 (slotT (P29 (.slice (some ⟨g12, 0, none⟩) j c12) g12 j x0 x1 x2 x3 (sched mm j))) [12, 13, 14, 15] (by kernel_rfl) (by kernel_rfl) (by kernel_rfl) (by kernel_rfl) ?_ (slotT_mono (p29_mono _ _ _ _ _ _ _ _)) ?_ ?_
                        · exact ⟨⟨_, rfl, rfl⟩, ⟨_, rfl, rfl⟩, ⟨_, rfl, rfl⟩, ⟨_, rfl, rfl⟩, trivial⟩
                        · go_light
                          refine ⟨?_, ?_, ?_, ?_, ?_, ?_, ?_, ?t7, ?_, ?t9, ?_, ?_, ?_, ?_, ?_, ?_, ?_, ?_, ?_, ?_, ?_, ?_, ?t22, ?_, ?t24, ?_, ?_, ?_, ?_, ?_, ?_, trivial⟩
                          case t7 =>
                            refine step_open rfl ?_
                            intro a w' hb hs hl
                            obtain ⟨⟨_, e, rfl⟩, _⟩ := hl
                            unfold Oper.wp
                            go_simp
                            exact (refTurn_b x0 7 7 w' rfl (by decide) (by decide)).mono (by rintro e w'' ⟨rfl, hb2⟩; exact ⟨_, rfl, hb2, rfl⟩)
                          case t9 =>
                            refine step_open rfl ?_
                            intro a w' hb hs hl
                            obtain ⟨⟨_, e, rfl⟩, _⟩ := hl
                            unfold Oper.wp
                            go_simp
                            exact (refTurn_b x0 18 18 w' rfl (by decide) (by decide)).mono (by rintro e w'' ⟨rfl, hb2⟩; exact ⟨_, rfl, hb2, rfl⟩)
                          case t22 =>
                            refine step_open rfl ?_
                            intro a w' hb hs hl
                            obtain ⟨⟨_, e, rfl⟩, _⟩ := hl
                            unfold Oper.wp
                            go_simp
                            exact (refTurn_b x1 17 17 w' rfl (by decide) (by decide)).mono (by rintro e w'' ⟨rfl, hb2⟩; exact ⟨_, rfl, hb2, rfl⟩)
                          case t24 =>
                            refine step_open rfl ?_
                            intro a w' hb hs hl
                            obtain ⟨⟨_, e, rfl⟩, _⟩ := hl
                            unfold Oper.wp
                            go_simp
                            exact (refTurn_b x1 19 19 w' rfl (by decide) (by decide)).mono (by rintro e w'' ⟨rfl, hb2⟩; exact ⟨_, rfl, hb2, rfl⟩)
                          all_goals refine step_open rfl ?_
                          all_goals (intro a w' hb hs hl; clear hs; repeat (first | (obtain ⟨⟨_, e, rfl⟩, hl⟩ := hl) | (obtain ⟨⟨_, e, h⟩, hl⟩ := hl)))
                          all_goals (have k2 := (hb.cell (p := ⟨g12, j - 16, none⟩) hg12).trans HCB.out.1; have k3 := (hb.cell (p := ⟨g12, j - 7, none⟩) hg12).trans HCB.out.2; clear hb)
                          all_goals ((try clear hl); unfold Oper.wp; go_simp)
                          all_goals first
                            | exact ⟨_, rfl, Below.refl _ _, rfl⟩
                            | exact ⟨_, rfl, Below.refl _ _, congrArg (Value.int .u32) (bits_xor _ _)⟩
                            | exact ⟨_, rfl, Below.refl _ _, congrArg (Value.int .u32) (tdiv8 _)⟩
                            | exact ⟨_, rfl, Below.refl _ _, congrArg (Value.int .u32) (tdiv1024 _)⟩
                            | skip
                          · refine ⟨_, rfl, Below.refl _ _, ?_⟩
                            show Value.int .u32 _ = Value.int .u32 (Sha.u32 (sched mm j))
                            rw [hw.out]
                            exact congrArg (Value.int .u32) (add_wrap _ _)
                          · exact ⟨_, rfl, (Below.refl _ _).alloc (Nat.le_refl _) _, slice_new _ _⟩
                        · intro a w' hb hsm hd
                          obtain ⟨_, e138, rfl⟩ := hd 138 (by decide)
                          obtain ⟨f139, e139, -⟩ := hd 139 (by decide)
                          obtain ⟨f140, e140, -⟩ := hd 140 (by decide)
                          obtain ⟨f141, e141, -⟩ := hd 141 (by decide)
                          obtain ⟨f142, e142, -⟩ := hd 142 (by decide)
                          obtain ⟨f143, e143, -⟩ := hd 143 (by decide)
                          obtain ⟨f144, e144, -⟩ := hd 144 (by decide)
                          obtain ⟨f145, e145, -⟩ := hd 145 (by decide)
                          obtain ⟨f146, e146, -⟩ := hd 146 (by decide)
                          obtain ⟨f147, e147, -⟩ := hd 147 (by decide)
                          obtain ⟨f148, e148, -⟩ := hd 148 (by decide)
                          obtain ⟨f149, e149, -⟩ := hd 149 (by decide)
                          obtain ⟨f150, e150, -⟩ := hd 150 (by decide)
                          obtain ⟨f151, e151, -⟩ := hd 151 (by decide)
                          obtain ⟨f152, e152, -⟩ := hd 152 (by decide)
                          obtain ⟨f153, e153, -⟩ := hd 153 (by decide)
                          obtain ⟨f154, e154, -⟩ := hd 154 (by decide)
                          obtain ⟨f155, e155, -⟩ := hd 155 (by decide)
                          obtain ⟨f156, e156, -⟩ := hd 156 (by decide)
                          obtain ⟨f157, e157, -⟩ := hd 157 (by decide)
                          obtain ⟨f158, e158, -⟩ := hd 158 (by decide)
                          obtain ⟨f159, e159, -⟩ := hd 159 (by decide)
                          obtain ⟨f160, e160, -⟩ := hd 160 (by decide)
                          obtain ⟨f161, e161, -⟩ := hd 161 (by decide)
                          obtain ⟨f162, e162, -⟩ := hd 162 (by decide)
                          obtain ⟨f163, e163, -⟩ := hd 163 (by decide)
                          obtain ⟨f164, e164, -⟩ := hd 164 (by decide)
                          obtain ⟨f165, e165, -⟩ := hd 165 (by decide)
                          obtain ⟨f166, e166, -⟩ := hd 166 (by decide)
                          obtain ⟨f167, e167, -⟩ := hd 167 (by decide)
                          obtain ⟨_, e168, gs, caps, rfl, hgs, hcs⟩ := hd 168 (by decide)
                          have hA := sameH_put hsm [(138, .slice (some ⟨g12, 0, none⟩) j c12), (139, f139), (140, f140), (141, f141), (142, f142), (143, f143), (144, f144), (145, f145), (146, f146), (147, f147), (148, f148), (149, f149), (150, f150), (151, f151), (152, f152), (153, f153), (154, f154), (155, f155), (156, f156), (157, f157), (158, f158), (159, f159), (160, f160), (161, f161), (162, f162), (163, f163), (164, f164), (165, f165), (166, f166), (167, f167), (168, .slice (some ⟨gs, 0, none⟩) 1 caps)] ⟨e138, e139, e140, e141, e142, e143, e144, e145, e146, e147, e148, e149, e150, e151, e152, e153, e154, e155, e156, e157, e158, e159, e160, e161, e162, e163, e164, e165, e166, e167, e168, trivial⟩ (by kernel_rfl)
                          clear hsm hd e138 e139 e140 e141 e142 e143 e144 e145 e146 e147 e148 e149 e150 e151 e152 e153 e154 e155 e156 e157 e158 e159 e160 e161 e162 e163 e164 e165 e166 e167 e168
                          subst hA
                          have HB6 := Lib.hid (HN5.out.2.drew.trans (hb.mono HN5.out.2.size))
                          have HN6 := Lib.hid (HN5.out.1.drew.below hb)
                          have HCS := Lib.hid hcs
                          clear hb hcs
                          simp only [List.foldl, List.drop_succ_cons, List.drop_zero, Act.put, List.setIfInBounds_toArray, List.set_cons_succ, List.set_cons_zero]
                          go_wp2_with (at_builtin; refine Nums.wpList_append rfl (.tmp 138) (.tmp 168) 58 rfl Tryd.underlying58 .u32 4 (by decide) info59 rfl HN6.out ⟨gs, 0, none⟩ 1 caps [(sched mm j).toNat] rfl rfl ?m1 ?m2 ?m3 ?_)
                          case m1 => exact cell_num HCS.out
                          case m2 => rw [sList_length]; omega
                          case m3 => exact HB6.out.size
                          intro v7 w7 hn7 hg7
                          rw [← sList_next] at hn7
                          have HB7 := Lib.hid (Nums.grown_below HB6.out HB6.out.size HN6.out hg7)
                          have HN7 := Lib.hid hn7
                          clear hn7 hg7
                          go_wp2_with fail
                          refine ⟨?_, ?measure⟩
                          repeat apply Exists.intro
                          refine ⟨?rel, rfl⟩
                          case rel =>
                            go_light
                            exact ⟨j + 1, by omega, by go_num, HN7.out, HB7.out⟩
                          case measure =>
                            go_light
                            simp [intOf]
                            omega
                    · obtain rfl : j = 64 := by omega
                      obtain ⟨gw, rfl, hgw0, hgw, hcw0, hcw⟩ := hn5.open_ (by rw [sList_length]; decide)
                      rw [sList_length] at hcw
                      have HWc := Lib.hid (show ∀ i, i < 64 → wr.cell? ⟨gw, i, none⟩ = some (.int .u32 (Sha.u32 (sched mm i))) from fun i hi => by
                        rw [hcw i hi, sList_at mm 64 i hi]
                        rfl)
                      generalize hx8 : blocks KW H0 m nb = x at HI
                      have HX := Lib.hid hx8
                      have HWx := Lib.hid (HI.out.1.below hb5 hhs)
                      have HB5 := Lib.hid hb5
                      clear hcw hx8 hn5 hb5
                      go_wp2_with (at_builtin; refine Nums.wpList_append rfl (.tmp 170) (.tmp 171) 58 rfl Tryd.underlying58 .u32 4 (by decide) info59 (base := wr.heap.size) (l := []) rfl ?n0 ⟨gh, 0, none⟩ 8 ch (h8List x) rfl rfl ?n1 ?n2 ?n3 ?_)
                      case n0 => exact World.ownsRow_made wr _ 0 (Nat.le_refl _) (Nat.zero_le _) rfl
                      case n1 => exact h8_src (HWx.out.alloc (Nat.lt_of_lt_of_le hhs HB5.out.size) _)
                      case n2 => decide
                      case n3 => simp
                      intro v8 w8 hn8 hg8
                      have hB8 : Below wr.heap.size wr w8 := ((Below.refl _ _).alloc (Nat.le_refl _) _).grown hg8 (by simp) (fun k hk => by simp [Value.ownBlock] at hk; omega)
                      have hx : ∃ a8 c8, v8 = .slice a8 8 c8 := hn8.len
                      obtain ⟨a8, c8, hv8⟩ := hx
                      rw [hv8] at hn8
                      obtain ⟨g8, rfl, hg80, hg81, hc8, hE8⟩ := eight_of hn8
                      rw [hv8]
                      have HE8 := Lib.hid (And.intro hE8 hB8)
                      clear hn8 hg8 hv8 hE8 hB8
                      go_wp2_with fail
                      go_loopw [16, 17] (fun u16 u17 wq => Rel6 mm x wr u16 u17 wq) (fun _ u17 _ => 64 - (intOf u17).toNat)
                      case atStart => exact ⟨0, g8, c8, by omega, rfl, rfl, hg81, hg80, hc8, HE8.out.1, HE8.out.2⟩
                      case round =>
                        clear HE8 hg80 hg81 hc8
                        obtain ⟨j, g, c, hj, rfl, rfl, hgs, hg0, hc, hE, hb6⟩ := hrel
                        by_cases hlt6 : j < 64
                        · have j0 : (j : Int) < 64 := by omega
                          have j1 : (0 : Int) ≤ (j : Int) := by omega
                          have ck : wr.cell? ⟨gk, j, none⟩ = some (.int .u32 (Sha.u32 (KW j))) := by
                            rw [hb6.cell (p := ⟨gk, j, none⟩) (Nat.lt_of_lt_of_le hks HB5.out.size), HB5.out.cell (p := ⟨gk, j, none⟩) hks]
                            exact HCC.out.2 j hlt6
                          have cw : wr.cell? ⟨gw, j, none⟩ = some (.int .u32 (Sha.u32 (sched mm j))) := by
                            rw [hb6.cell (p := ⟨gw, j, none⟩) hgw]
                            exact HWc.out j hlt6
                          have HE := Lib.hid (And.intro hE hb6)
                          have hck64 : (j : Int) < 64 := j0
                          clear hE hb6
                          go_wp2_with fail
                          go_still_tail 9, (by kernel_rfl)
                          change wpList _ _ _ _ _ wr.drew
                          go_wp2_with fail
                          refine (refRound_any g c (roundsTo KW mm x j) (KW j) (sched mm j) wr.drew HE.out.1).mono ?_
                          rintro e w9 ⟨g9, rfl, hg90, hg91, hE9, hb9⟩
                          have HE9 := Lib.hid (And.intro hE9 hb9)
                          clear hE9 hb9
                          go_wp2_with fail
                          refine ⟨?rel, ?measure⟩
                          case rel =>
                            go_light
                            exact ⟨j + 1, g9, 8, by omega, by go_num, rfl, hg91, Nat.le_trans HE.out.2.size hg90, Nat.le_refl _, HE9.out.1, HE.out.2.drew.trans (HE9.out.2.mono HE.out.2.size)⟩
                          case measure =>
                            go_light
                            simp [intOf]
                            omega
                        · obtain rfl : j = 64 := by omega
                          generalize hy : roundsTo KW mm x 64 = y at hE
                          have HY := Lib.hid hy
                          have hWx6 : Words wr gh 8 x.get := HWx.out.below hb6 (Nat.lt_of_lt_of_le hhs HB5.out.size)
                          have hgne : g ≠ gh := by have := HB5.out.size; omega
                          have HB6 := Lib.hid hb6
                          have hU0 : Rel7 gh g x y wr (.int .i64 0) wr := ⟨0, by omega, rfl, hWx6.congr (fun i _ => by simp), fun i hi => eight_reads hE i hi, Upd.refl _ _ _⟩
                          have HU0 := Lib.hid hU0
                          clear hE hb6 hWx6 hy hU0
                          go_wp2_with fail
                          go_loopw [18] (fun u18 wq => Rel7 gh g x y wr u18 wq) (fun u18 _ => 8 - (intOf u18).toNat)
                          case atStart => exact HU0.out
                          case round =>
                            clear HU0
                            obtain ⟨j, hj, rfl, hW7, hV7, hU7⟩ := hrel
                            by_cases hlt7 : j < 8
                            · have j0 : (j : Int) < 8 := by omega
                              have j1 : (0 : Int) ≤ (j : Int) := by omega
                              have c0 : wr.cell? ⟨gh, j, none⟩ = some (.int .u32 (Sha.u32 (x.get j))) := by
                                have h := hW7.1 j hlt7
                                simp only [Nat.lt_irrefl, if_false] at h
                                exact h
                              have c1 := hV7 j hlt7
                              have f0 : wr.frozen? ⟨gh, j, none⟩ = false := hW7.2 j hlt7
                              have hn := fun u hu => rel7_next hlt7 hgne hW7 hV7 hU7 _ rfl u hu
                              have HN := Lib.hid hn
                              clear hW7 hV7 hU7 hn
                              generalize hz0 : x.get j = z0 at c0 HN
                              generalize hz1 : y.get j = z1 at c1 HN
                              clear hz0 hz1
                              go_wp2_with fail
                              go_still_tail 10, (by kernel_rfl)
                              change wpList _ _ _ _ _ wr.drew
                              go_wp2_with fail
                              refine ⟨?_, ?measure⟩
                              repeat apply Exists.intro
                              refine ⟨?rel, rfl⟩
                              case rel =>
                                go_light
                                exact HN.out _ (by go_num)
                              case measure =>
                                go_light
                                simp [intOf]
                                omega
                            · obtain rfl : j = 8 := by omega
                              have hb' : blocks KW H0 m (nb + 1) = x.add y := by
                                show blockOf KW (bytesFrom m (64 * nb)) (blocks KW H0 m nb) = _
                                rw [HMM.out, HX.out, ← HY.out]
                                rfl
                              have HFW := Lib.hid (show Words wr gh 8 (blocks KW H0 m (nb + 1)).get from hW7.congr (fun i hi => by rw [hb', H8.add_get, if_pos hi]))
                              have HFU := Lib.hid (((HI.out.2.below HB5.out).below HB6.out).trans hU7)
                              clear hW7 hV7 hU7 hb'
                              go_wp2_with fail
                              refine ⟨?_, ?measure⟩
                              repeat apply Exists.intro
                              refine ⟨?rel, rfl⟩
                              case rel =>
                                go_light
                                exact ⟨nb + 1, by omega, val_int (by have := HPP.out; omega), HFW.out, HFU.out⟩
                              case measure =>
                                go_light
                                simp [intOf]
                                omega
                · obtain rfl : nb = Nb := by omega
                  have HFW := Lib.hid hW
                  have hbelow : Below w.heap.size w wr := HBs.out.below.trans (hU.toBelow HBs.out.lo (fun k hk => by simp [Value.ownBlock] at hk) HBs.out.below.size)
                  have hghs : gh < wr.heap.size := Nat.lt_of_lt_of_le HBs.out.hh hU.size
                  have HBL := Lib.hid hbelow
                  generalize hv : blocks KW H0 m nb = v at HFW
                  have HV := Lib.hid hv
                  clear hW hU hv hbelow
                  go_wp2_with fail
                  go_loopw [19, 21, 203] (fun u19 _ u203 wq => ∃ j : Nat, j ≤ 8 ∧ u203 = .int .i64 (j : Nat) ∧ Buf wq wr.heap.size 5 u19 (outTo v j) ∧ Below wr.heap.size wr wq) (fun _ _ u203 _ => 8 - (intOf u203).toNat)
                  case atStart => exact ⟨0, by omega, rfl, Buf.nil _ _ _, Below.refl _ _⟩
                  case round =>
                    obtain ⟨j, hj, rfl, hbo, hbl⟩ := hrel
                    have hx : ∃ a19 c19, u19 = .slice a19 (outTo v j).length c19 := hbo.len
                    obtain ⟨a19, c19, rfl⟩ := hx
                    by_cases hlt8 : j < 8
                    · have j0 : (j : Int) < 8 := by omega
                      have cz : wr.cell? ⟨gh, j, none⟩ = some (.int .u32 (Sha.u32 (v.get j))) := by
                        rw [hbl.cell (p := ⟨gh, j, none⟩) hghs]
                        exact HFW.out.1 j hlt8
                      generalize hz : v.get j = z at cz
                      have HZ := Lib.hid hz
                      have z0 := u32_nonneg z
                      have z1 := u32_lt z
                      have HO := Lib.hid (And.intro hbo hbl)
                      clear hz hbo hbl
                      go_wp2_with (at_builtin; refine Buf.wpList_append rfl (.tmp 207) (.tmp 211) 51 rfl Tryd.underlying51 info5 rfl (HO.out.1.alloc _) ⟨wr.heap.size, 0, none⟩ 1 1 [UInt8.ofNat (z.toNat / 16777216)] rfl rfl ?o11 ?o12 ?o13 ?_)
                      case o11 =>
                        refine At.one _ _ _ _ ?_
                        exact byte_cell24 z
                      case o12 => go_light; simp [outTo_length]; omega
                      case o13 => first | exact Nat.le_succ_of_le HO.out.2.size | (simp; exact Nat.le_succ_of_le HO.out.2.size)
                      intro v21 w21 hb21 hg21
                      have HO1 := Lib.hid (And.intro hb21 (show Below _ _ w21 from Go.Proofs.YtnmooegegknmoaaDoor.grown_below (HO.out.2.alloc HO.out.2.size _) (by simp; exact Nat.le_succ_of_le HO.out.2.size) (HO.out.1.alloc _) hg21))
                      clear hb21 hg21
                      go_wp2_with (at_builtin; refine Buf.wpList_append rfl (.tmp 213) (.tmp 217) 51 rfl Tryd.underlying51 info5 rfl (HO1.out.1.alloc _) ⟨w21.heap.size, 0, none⟩ 1 1 [UInt8.ofNat (z.toNat / 65536)] rfl rfl ?o21 ?o22 ?o23 ?_)
                      case o21 =>
                        refine At.one _ _ _ _ ?_
                        exact byte_cell z 65536
                      case o22 => go_light; simp [outTo_length]; omega
                      case o23 => first | exact Nat.le_succ_of_le HO1.out.2.size | (simp; exact Nat.le_succ_of_le HO1.out.2.size)
                      intro v22 w22 hb22 hg22
                      have HO2 := Lib.hid (And.intro hb22 (show Below _ _ w22 from Go.Proofs.YtnmooegegknmoaaDoor.grown_below (HO1.out.2.alloc HO1.out.2.size _) (by simp; exact Nat.le_succ_of_le HO1.out.2.size) (HO1.out.1.alloc _) hg22))
                      clear hb22 hg22
                      go_wp2_with (at_builtin; refine Buf.wpList_append rfl (.tmp 219) (.tmp 223) 51 rfl Tryd.underlying51 info5 rfl (HO2.out.1.alloc _) ⟨w22.heap.size, 0, none⟩ 1 1 [UInt8.ofNat (z.toNat / 256)] rfl rfl ?o31 ?o32 ?o33 ?_)
                      case o31 =>
                        refine At.one _ _ _ _ ?_
                        exact byte_cell z 256
                      case o32 => go_light; simp [outTo_length]; omega
                      case o33 => first | exact Nat.le_succ_of_le HO2.out.2.size | (simp; exact Nat.le_succ_of_le HO2.out.2.size)
                      intro v23 w23 hb23 hg23
                      have HO3 := Lib.hid (And.intro hb23 (show Below _ _ w23 from Go.Proofs.YtnmooegegknmoaaDoor.grown_below (HO2.out.2.alloc HO2.out.2.size _) (by simp; exact Nat.le_succ_of_le HO2.out.2.size) (HO2.out.1.alloc _) hg23))
                      clear hb23 hg23
                      go_wp2_with (at_builtin; refine Buf.wpList_append rfl (.tmp 225) (.tmp 228) 51 rfl Tryd.underlying51 info5 rfl (HO3.out.1.alloc _) ⟨w23.heap.size, 0, none⟩ 1 1 [UInt8.ofNat z.toNat] rfl rfl ?o41 ?o42 ?o43 ?_)
                      case o41 =>
                        refine At.one _ _ _ _ ?_
                        exact byte_cell1 z
                      case o42 => go_light; simp [outTo_length]; omega
                      case o43 => first | exact Nat.le_succ_of_le HO3.out.2.size | (simp; exact Nat.le_succ_of_le HO3.out.2.size)
                      intro v24 w24 hb24 hg24
                      have HO4 := Lib.hid (And.intro hb24 (show Below _ _ w24 from Go.Proofs.YtnmooegegknmoaaDoor.grown_below (HO3.out.2.alloc HO3.out.2.size _) (by simp; exact Nat.le_succ_of_le HO3.out.2.size) (HO3.out.1.alloc _) hg24))
                      clear hb24 hg24
                      have ho4 := HO4.out.1
                      have e4 : outTo v j ++ [UInt8.ofNat (z.toNat / 16777216), UInt8.ofNat (z.toNat / 65536), UInt8.ofNat (z.toNat / 256), UInt8.ofNat z.toNat] = outTo v (j + 1) := by
                        rw [← HZ.out]
                        rfl
                      rw [e4] at ho4
                      have HO5 := Lib.hid ho4
                      clear ho4
                      go_wp2_with fail
                      refine ⟨?_, ?measure⟩
                      repeat apply Exists.intro
                      refine ⟨?rel, rfl⟩
                      case rel =>
                        go_light
                        exact ⟨j + 1, by omega, by go_num, HO5.out, HO4.out.2⟩
                      case measure =>
                        go_light
                        simp [intOf]
                        omega
                    · obtain rfl : j = 8 := by omega
                      have hst := hbo.string (P := Tryd.prog) Tryd.underlying51 Tryd.underlying5 Tryd.underlying9
                      have HO := Lib.hid (And.intro hbo hbl)
                      clear hbo hbl
                      go_wp2_with fail
                      go_ret
                      have hdg : digest KW H0 (bs s) = outTo v 8 := by
                        unfold digest
                        rw [← HM.out.1, HM.out.2.1, Nat.mul_div_cancel_left _ (by decide), HV.out]
                      rw [hdg]
                      exact ⟨rfl, HBL.out.trans (HO.out.2.mono HBL.out.size)⟩
end Go.Proofs.YtnmooegegknmoaaDoor
