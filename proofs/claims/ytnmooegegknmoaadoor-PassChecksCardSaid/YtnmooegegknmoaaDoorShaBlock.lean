/-
  The contract of the program's block.
-/
import Derived.Test.YtnmooegegknmoaaDoorShaTurn
import Derived.Test.YtnmooegegknmoaaDoorShaMem
import Derived.Test.YtnmooegegknmoaaDoorTail
import Derived.StillTailTactics
namespace Go.Proofs.YtnmooegegknmoaaDoor
open Go.RowKit Go.Proofs.Sha


theorem shr8 (a : BitVec 32) : Sha.u32 a / (8 : Int) = Sha.u32 (a >>> 3) := shr_word a 3
theorem shr1024 (a : BitVec 32) : Sha.u32 a / (1024 : Int) = Sha.u32 (a >>> 10) := shr_word a 10
attribute [local go_sem] bits_xor bits_and bits_or add_mod sub_all_mod not_word shr8 shr1024

theorem next_word (x0 x1 x2 x3 : BitVec 32) : (Sha.u32 x2 + bits BinOp.xor IntKind.u32 (Sha.u32 (rot x0 7 ^^^ rot x0 18)) (Sha.u32 x0 / (8 : Int)) + Sha.u32 x3 + bits BinOp.xor IntKind.u32 (Sha.u32 (rot x1 17 ^^^ rot x1 19)) (Sha.u32 x1 / (1024 : Int))) % 4294967296 = Sha.u32 (x2 + low0 x0 + x3 + low1 x1) := by
  rw [shr8, shr1024, bits_xor, bits_xor]
  unfold Sha.u32 low0 low1
  simp only [BitVec.toNat_add]
  omega

/-- What the block's loops keep: the copy of the words, the result's cell, the schedule. -/
structure Blk (w wr : World) (h : H8) (f : Nat → BitVec 32) : Prop where
  below : Below w.heap.size w wr
  size : w.heap.size + 2 < wr.heap.size
  old : Words wr w.heap.size 8 h.get
  out : ∀ i, i < 8 → wr.frozen? ⟨w.heap.size + 1, i, none⟩ = false
  out2 : Words wr (w.heap.size + 1) 8 (fun _ => 0#32)
  tab : Words wr (w.heap.size + 1 + 1) 64 f

theorem Blk.drewN {w wr : World} {h : H8} {f : Nat → BitVec 32} (H : Blk w wr h f) (k : Nat) : Blk w (wr.drewN k) h f :=
  ⟨⟨H.below.os, H.below.tape, H.below.output, H.below.size, H.below.block⟩, H.size, H.old, H.out, H.out2, H.tab⟩
theorem Blk.drew {w wr : World} {h : H8} {f : Nat → BitVec 32} (H : Blk w wr h f) : Blk w wr.drew h f := ⟨H.below.drew, H.size, H.old, H.out, H.out2, H.tab⟩
theorem Blk.put {w wr : World} {h : H8} {f : Nat → BitVec 32} (H : Blk w wr h f) (j : Nat) (hj : j < 64) (x : BitVec 32) (g : Nat → BitVec 32) (hg : ∀ i, (if i = j then x else f i) = g i) : Blk w (wr.setCell ⟨w.heap.size + 1 + 1, j, none⟩ (.int .u32 (u32 x))) h g :=
  ⟨H.below.setCell (by show w.heap.size ≤ w.heap.size + 1 + 1; omega) _, by simpa using H.size, H.old.other (by show w.heap.size + 1 + 1 ≠ w.heap.size; omega) _,
    fun i hi => by rw [World.frozen?_setCell]; exact H.out i hi, H.out2.other (by show w.heap.size + 1 + 1 ≠ w.heap.size + 1; omega) _, (H.tab.set j hj x).congr (fun i _ => hg i)⟩
theorem upto_next (S : Nat → BitVec 32) (j i : Nat) : (if i = j then S j else if i < j then S i else 0#32) = if i < j + 1 then S i else 0#32 := by
  by_cases e : i = j
  · subst e; simp
  · by_cases l : i < j
    · rw [if_neg e, if_pos l, if_pos (by omega)]
    · rw [if_neg e, if_neg l, if_neg (by omega)]

theorem blk_start (w : World) (h : H8) (T1 T2 : TypeId) {m : Nat → UInt8} (C : Array Value) (D : Array Value) (hC : C = Array.replicate 8 (.int .u32 0)) (hD : D = Array.replicate 64 (.int .u32 0)) :
    Blk w (((w.alloc (.cells h.row T1)).alloc (.cells C T1)).alloc (.cells D T2)) h (fun i => if i < 0 then sched m i else 0#32) := by
  have e1 : (w.alloc (.cells h.row T1)).heap.size = w.heap.size + 1 := by simp
  have e2 : ((w.alloc (.cells h.row T1)).alloc (.cells C T1)).heap.size = w.heap.size + 1 + 1 := by simp
  have a := words_row w h T1
  have b := words_zero (w.alloc (.cells h.row T1)) 8 C T1 hC
  have c := words_zero ((w.alloc (.cells h.row T1)).alloc (.cells C T1)) 64 D T2 hD
  rw [e1] at b
  rw [e2] at c
  refine ⟨(((Below.refl _ _).alloc (Nat.le_refl _) _).alloc (by simp) _).alloc (by simp; omega) _, by simp, (a.alloc (by simp) _).alloc (by simp; omega) _, ?_, b.alloc (by simp) _, ?_⟩
  · exact (b.alloc (by simp) _).2
  · exact c.congr (fun i _ => by simp)

theorem Blk.other {w wr : World} {h : H8} {f : Nat → BitVec 32} (H : Blk w wr h f) {p : Addr} (hp : w.heap.size + 2 < p.block) (v : Value) : Blk w (wr.setCell p v) h f :=
  ⟨H.below.setCell (by omega) _, by simpa using H.size, H.old.other (by omega) _, fun i hi => by rw [World.frozen?_setCell]; exact H.out i hi, H.out2.other (by omega) _, H.tab.other (by omega) _⟩
theorem Blk.alloc {w wr : World} {h : H8} {f : Nat → BitVec 32} (H : Blk w wr h f) (o : Obj) : Blk w (wr.alloc o) h f := by
  have hs := H.size
  have hb := H.below.size
  exact ⟨H.below.alloc hb o, by simp; omega, H.old.alloc (by omega) o, (H.out2.alloc (by omega) o).2, H.out2.alloc (by omega) o, H.tab.alloc (by omega) o⟩
theorem words_eight {w : World} {B : Nat} {f : Nat → BitVec 32} (h : Words w B 8 f) (x : H8) (x0 x1 x2 x3 x4 x5 x6 x7 : Int) (e0 : x0 = Sha.u32 x.a) (e1 : x1 = Sha.u32 x.b) (e2 : x2 = Sha.u32 x.c) (e3 : x3 = Sha.u32 x.d) (e4 : x4 = Sha.u32 x.e) (e5 : x5 = Sha.u32 x.f) (e6 : x6 = Sha.u32 x.g) (e7 : x7 = Sha.u32 x.h) :
    Words ((((((((w.setCell ⟨B, 0, none⟩ (.int .u32 x0)).setCell ⟨B, 1, none⟩ (.int .u32 x1)).setCell ⟨B, 2, none⟩ (.int .u32 x2)).setCell ⟨B, 3, none⟩ (.int .u32 x3)).setCell ⟨B, 4, none⟩ (.int .u32 x4)).setCell ⟨B, 5, none⟩ (.int .u32 x5)).setCell ⟨B, 6, none⟩ (.int .u32 x6)).setCell ⟨B, 7, none⟩ (.int .u32 x7)) B 8 x.get := by
  subst e0 e1 e2 e3 e4 e5 e6 e7
  refine ((((((((h.set 0 (by decide) x.a).set 1 (by decide) x.b).set 2 (by decide) x.c).set 3 (by decide) x.d).set 4 (by decide) x.e).set 5 (by decide) x.f).set 6 (by decide) x.g).set 7 (by decide) x.h).congr ?_
  intro i hi
  match i, hi with
  | 0, _ => rfl
  | 1, _ => rfl
  | 2, _ => rfl
  | 3, _ => rfl
  | 4, _ => rfl
  | 5, _ => rfl
  | 6, _ => rfl
  | 7, _ => rfl
theorem rel3 {w wr : World} {h : H8} {f g : Nat → BitVec 32} {vb n : Nat} (hvb2 : w.heap.size + 2 < vb) (hvs : vb < wr.heap.size) (H : Blk w wr h f ∧ Words wr vb 8 g) (x : H8) (x0 x1 x2 x3 x4 x5 x6 x7 : Int) (e0 : x0 = Sha.u32 x.a) (e1 : x1 = Sha.u32 x.b) (e2 : x2 = Sha.u32 x.c) (e3 : x3 = Sha.u32 x.d) (e4 : x4 = Sha.u32 x.e) (e5 : x5 = Sha.u32 x.f) (e6 : x6 = Sha.u32 x.g) (e7 : x7 = Sha.u32 x.h) :
    vb < (((((((((wr.drewN n).setCell ⟨vb, 0, none⟩ (.int .u32 x0)).setCell ⟨vb, 1, none⟩ (.int .u32 x1)).setCell ⟨vb, 2, none⟩ (.int .u32 x2)).setCell ⟨vb, 3, none⟩ (.int .u32 x3)).setCell ⟨vb, 4, none⟩ (.int .u32 x4)).setCell ⟨vb, 5, none⟩ (.int .u32 x5)).setCell ⟨vb, 6, none⟩ (.int .u32 x6)).setCell ⟨vb, 7, none⟩ (.int .u32 x7)).heap.size ∧
    Blk w (((((((((wr.drewN n).setCell ⟨vb, 0, none⟩ (.int .u32 x0)).setCell ⟨vb, 1, none⟩ (.int .u32 x1)).setCell ⟨vb, 2, none⟩ (.int .u32 x2)).setCell ⟨vb, 3, none⟩ (.int .u32 x3)).setCell ⟨vb, 4, none⟩ (.int .u32 x4)).setCell ⟨vb, 5, none⟩ (.int .u32 x5)).setCell ⟨vb, 6, none⟩ (.int .u32 x6)).setCell ⟨vb, 7, none⟩ (.int .u32 x7)) h f ∧
    Words (((((((((wr.drewN n).setCell ⟨vb, 0, none⟩ (.int .u32 x0)).setCell ⟨vb, 1, none⟩ (.int .u32 x1)).setCell ⟨vb, 2, none⟩ (.int .u32 x2)).setCell ⟨vb, 3, none⟩ (.int .u32 x3)).setCell ⟨vb, 4, none⟩ (.int .u32 x4)).setCell ⟨vb, 5, none⟩ (.int .u32 x5)).setCell ⟨vb, 6, none⟩ (.int .u32 x6)).setCell ⟨vb, 7, none⟩ (.int .u32 x7)) vb 8 x.get :=
  ⟨by simpa using hvs, ((((((((H.1.drewN n).other hvb2 _).other hvb2 _).other hvb2 _).other hvb2 _).other hvb2 _).other hvb2 _).other hvb2 _).other hvb2 _, words_eight (H.2.drewN n) x x0 x1 x2 x3 x4 x5 x6 x7 e0 e1 e2 e3 e4 e5 e6 e7⟩
theorem five_words (a b c d e : BitVec 32) : (Sha.u32 a + Sha.u32 b + Sha.u32 c + Sha.u32 d + Sha.u32 e) % 4294967296 = Sha.u32 (a + b + c + d + e) := by
  unfold Sha.u32
  simp only [BitVec.toNat_add]
  omega
theorem five_words' (a b c d e : BitVec 32) : (Sha.u32 e + (Sha.u32 a + Sha.u32 b + Sha.u32 c + Sha.u32 d)) % 4294967296 = Sha.u32 (e + (a + b + c + d)) := by
  unfold Sha.u32
  simp only [BitVec.toNat_add]
  omega

/-- What the last loop keeps: the sum of the words so far. -/
structure Sum4 (w wr : World) (vb : Nat) (v x : H8) (j : Nat) : Prop where
  below : Below w.heap.size w wr
  size : w.heap.size + 2 < vb
  vs : vb < wr.heap.size
  out : ∀ i, i < 8 → wr.frozen? ⟨w.heap.size + 1, i, none⟩ = false
  out2 : Words wr (w.heap.size + 1) 8 (fun _ => 0#32)
  vw : Words wr vb 8 x.get
  sum : Words wr w.heap.size 8 (fun i => if i < j then v.get i + x.get i else v.get i)
theorem Sum4.drew {w wr : World} {vb j : Nat} {v x : H8} (H : Sum4 w wr vb v x j) : Sum4 w wr.drew vb v x j := ⟨H.below.drew, H.size, H.vs, H.out, H.out2, H.vw, H.sum⟩
theorem Sum4.put {w wr : World} {vb j : Nat} {v x : H8} (H : Sum4 w wr vb v x j) (hj : j < 8) (z : BitVec 32) (hz : z = v.get j + x.get j) : Sum4 w (wr.setCell ⟨w.heap.size, j, none⟩ (.int .u32 (Sha.u32 z))) vb v x (j + 1) := by
  subst hz
  have hs := H.size
  refine ⟨H.below.setCell (Nat.le_refl _) _, hs, by simpa using H.vs, fun i hi => by rw [World.frozen?_setCell]; exact H.out i hi, H.out2.other (by show w.heap.size ≠ _; omega) _, H.vw.other (by show w.heap.size ≠ _; omega) _, (H.sum.set j hj _).congr ?_⟩
  intro i _
  show (if i = j then v.get j + x.get j else if i < j then v.get i + x.get i else v.get i) = _
  by_cases e : i = j
  · subst e; simp
  · by_cases l : i < j
    · rw [if_neg e, if_pos l, if_pos (by omega)]
    · rw [if_neg e, if_neg l, if_neg (by omega)]
theorem Sum4.done {w wr : World} {vb : Nat} {v x : H8} (H : Sum4 w wr vb v x 8) : Words wr w.heap.size 8 (v.add x).get :=
  H.sum.congr fun i hi => by rw [if_pos hi, H8.add_get]
theorem sum4_start {w wr : World} {vb : Nat} {v x : H8} {f : Nat → BitVec 32} (hvb2 : w.heap.size + 2 < vb) (hvs : vb < wr.heap.size) (H : Blk w wr v f) (HV : Words wr vb 8 x.get) : Sum4 w wr vb v x 0 :=
  ⟨H.below, hvb2, hvs, H.out, H.out2, HV, H.old.congr (fun i _ => by simp)⟩

set_option maxHeartbeats 2000000 in
set_option maxRecDepth 100000 in
theorem block_any (h : H8) (B off cap : Nat) (m : Nat → UInt8) (K : Nat → BitVec 32) (w : World) (hG : 1 < w.heap.size) (hK : ∀ i, i < 64 → w.cell? ⟨1, i, none⟩ = some (.int .u32 (u32 (K i)))) (hB : B < w.heap.size) (hm : ∀ i, i < 64 → w.cell? ⟨B, off + i, none⟩ = some (.int .u8 (((m i).toNat : Nat) : Int))) :
    Calls Tryd.prog 33 #[.agg h.row, .slice (some ⟨B, off, none⟩) 64 cap] w fun e w' => e = .returned (.agg (blockOf K m h).row) ∧ Below w.heap.size w w' := by
  obtain ⟨h0, h1, h2, h3, h4, h5, h6, h7⟩ := h
  simp only [H8.row]
  go_enter Tryd.func33, Tryd.ntmps33
  go_wp2_with fail
  go_loopw [6, 17] (fun _ i wr => ∃ (j : Nat), j ≤ 16 ∧ i = .int .i64 j ∧ Blk w wr ⟨h0, h1, h2, h3, h4, h5, h6, h7⟩ (fun i => if i < j then sched m i else 0#32)) (fun _ i _ => 16 - (intOf i).toNat)
  case atStart => exact ⟨0, Nat.zero_le _, rfl, by
    exact blk_start w ⟨h0, h1, h2, h3, h4, h5, h6, h7⟩ _ _ _ _ rfl rfl⟩
  case round =>
    obtain ⟨j, hj, rfl, HB⟩ := hrel
    by_cases hlt : j < 16
    · have q0 : (0 : Int) ≤ (j : Int) := by omega
      have q1 : (j : Int) < 16 := by omega
      have q10 : (j : Int) < 64 := by omega
      have q2 : (0 : Int) ≤ 4 * (j : Int) := by omega
      have q3 : 4 * (j : Int) < 64 := by omega
      have q4 : (0 : Int) ≤ 4 * (j : Int) + 1 := by omega
      have q5 : 4 * (j : Int) + 1 < 64 := by omega
      have q6 : (0 : Int) ≤ 4 * (j : Int) + 2 := by omega
      have q7 : 4 * (j : Int) + 2 < 64 := by omega
      have q8 : (0 : Int) ≤ 4 * (j : Int) + 3 := by omega
      have q9 : 4 * (j : Int) + 3 < 64 := by omega
      have w0 : IntKind.i64.wrap (4 * (j : Int)) = 4 * (j : Int) := IntWalk.i64_in _ (by omega)
      have w1 : IntKind.i64.wrap (4 * (j : Int) + 1) = 4 * (j : Int) + 1 := IntWalk.i64_in _ (by omega)
      have w2 : IntKind.i64.wrap (4 * (j : Int) + 2) = 4 * (j : Int) + 2 := IntWalk.i64_in _ (by omega)
      have w3 : IntKind.i64.wrap (4 * (j : Int) + 3) = 4 * (j : Int) + 3 := IntWalk.i64_in _ (by omega)
      have cm : ∀ (i : Nat) (z : Int), z = (i : Int) → i < 64 → wr.cell? ⟨B, off + z.toNat, none⟩ = some (.int .u8 (((m i).toNat : Nat) : Int)) := fun i z hz hi => by
        subst hz
        rw [Int.toNat_natCast, HB.below.cell (p := ⟨B, off + i, none⟩) hB]
        exact hm i hi
      have c0 := cm (4 * j) (4 * (j : Int)) (by omega) (by omega)
      have c1 := cm (4 * j + 1) (4 * (j : Int) + 1) (by omega) (by omega)
      have c2 := cm (4 * j + 2) (4 * (j : Int) + 2) (by omega) (by omega)
      have c3 := cm (4 * j + 3) (4 * (j : Int) + 3) (by omega) (by omega)
      clear cm
      have hw := Lib.hid (show sched m j = word4 m j from sched_word m j hlt)
      rw [show word4 m j = BitVec.ofNat 32 ((m (4 * j)).toNat * 16777216 + (m (4 * j + 1)).toNat * 65536 + (m (4 * j + 2)).toNat * 256 + (m (4 * j + 3)).toNat) from rfl] at hw
      generalize m (4 * j) = x0 at c0 hw
      generalize m (4 * j + 1) = x1 at c1 hw
      generalize m (4 * j + 2) = x2 at c2 hw
      generalize m (4 * j + 3) = x3 at c3 hw
      have fz : wr.frozen? ⟨w.heap.size + 1 + 1, j, none⟩ = false := HB.tab.2 j (by omega)
      have cz := HB.tab.1 j (by omega)
      have HH := Lib.hid HB
      clear HB
      go_wp2_with fail
      go_still_tail 35, (by kernel_rfl)
      rw [or_bytes, ← hw.out]
      change wpList _ _ _ _ _ wr.drew
      go_wp2_with fail
      go_roundw
      case rel => exact ⟨j + 1, by omega, by go_num, HH.out.drew.put j (by omega) _ _ (upto_next (sched m) j)⟩
      case measure => simp [intOf]; omega
    · obtain rfl : j = 16 := by omega
      clear hlt hj
      go_wp2_with fail
      go_loopw [7, 8, 9] (fun i _ _ wr => ∃ (j : Nat), 16 ≤ j ∧ j ≤ 64 ∧ i = .int .i64 j ∧ Blk w wr ⟨h0, h1, h2, h3, h4, h5, h6, h7⟩ (fun i => if i < j then sched m i else 0#32)) (fun i _ _ _ => 64 - (intOf i).toNat)
      case atStart => exact ⟨16, by omega, by omega, rfl, HB⟩
      case round =>
        clear HB
        obtain ⟨j, hj16, hj, rfl, HB⟩ := hrel
        by_cases hlt : j < 64
        · have r0 : (15 : Int) ≤ (j : Int) := by omega
          have r1 : (2 : Int) ≤ (j : Int) := by omega
          have r2 : (16 : Int) ≤ (j : Int) := by omega
          have r3 : (7 : Int) ≤ (j : Int) := by omega
          have q0 : (0 : Int) ≤ (j : Int) - 15 := by omega
          have q1 : (j : Int) - 15 < 64 := by omega
          have q2 : (0 : Int) ≤ (j : Int) - 2 := by omega
          have q3 : (j : Int) - 2 < 64 := by omega
          have q4 : (0 : Int) ≤ (j : Int) - 16 := by omega
          have q5 : (j : Int) - 16 < 64 := by omega
          have q6 : (0 : Int) ≤ (j : Int) - 7 := by omega
          have q7 : (j : Int) - 7 < 64 := by omega
          have q8 : (j : Int) < 64 := by omega
          have w0 : IntKind.i64.wrap ((j : Int) - 15) = (j : Int) - 15 := IntWalk.i64_in _ (by omega)
          have w1 : IntKind.i64.wrap ((j : Int) - 2) = (j : Int) - 2 := IntWalk.i64_in _ (by omega)
          have w2 : IntKind.i64.wrap ((j : Int) - 16) = (j : Int) - 16 := IntWalk.i64_in _ (by omega)
          have w3 : IntKind.i64.wrap ((j : Int) - 7) = (j : Int) - 7 := IntWalk.i64_in _ (by omega)
          have cm : ∀ (i : Nat) (z : Int), z = (i : Int) → i < j → wr.cell? ⟨w.heap.size + 1 + 1, z.toNat, none⟩ = some (.int .u32 (Sha.u32 (sched m i))) := fun i z hz hi => by
            subst hz
            have h := HB.tab.1 i (by omega)
            simp only [if_pos hi] at h
            rw [Int.toNat_natCast, h]
          have c0 := cm (j - 15) ((j : Int) - 15) (by omega) (by omega)
          have c1 := cm (j - 2) ((j : Int) - 2) (by omega) (by omega)
          have c2 := cm (j - 16) ((j : Int) - 16) (by omega) (by omega)
          have c3 := cm (j - 7) ((j : Int) - 7) (by omega) (by omega)
          have d0 := cm (j - 15) ((j - 15 : Nat) : Int) rfl (by omega)
          have d1 := cm (j - 2) ((j - 2 : Nat) : Int) rfl (by omega)
          have d2 := cm (j - 16) ((j - 16 : Nat) : Int) rfl (by omega)
          have d3 := cm (j - 7) ((j - 7 : Nat) : Int) rfl (by omega)
          simp only [Int.toNat_natCast] at d0 d1 d2 d3
          clear cm
          have hw := Lib.hid (sched_next m j hj16)
          generalize sched m (j - 15) = x0 at c0 d0 hw
          generalize sched m (j - 2) = x1 at c1 d1 hw
          generalize sched m (j - 16) = x2 at c2 d2 hw
          generalize sched m (j - 7) = x3 at c3 d3 hw
          have fz : wr.frozen? ⟨w.heap.size + 1 + 1, j, none⟩ = false := HB.tab.2 j (by omega)
          have cz := HB.tab.1 j (by omega)
          have HH := Lib.hid HB
          clear HB
          go_wp2_with fail
          go_quiet (fail)
          go_wp2_with fail
          refine Tail.region_quiet_tail 29 (by kernel_rfl) (by kernel_rfl) ?_
          simp only [List.take_succ_cons, List.take_zero, List.drop_succ_cons, List.drop_zero]
          repeat (go_big_quiet_step ((go_at_call 42; first | exact turn_q2 _ _ _ _ _ _ (by first | exact (rfl : (7 : Int) = ((7 : Nat) : Int)) | exact (rfl : (18 : Int) = ((18 : Nat) : Int)) | exact (rfl : (17 : Int) = ((17 : Nat) : Int)) | exact (rfl : (19 : Int) = ((19 : Nat) : Int))) (by decide) (by decide) | exact turn_q _ _ _ _ _ (by first | exact (rfl : (7 : Int) = ((7 : Nat) : Int)) | exact (rfl : (18 : Int) = ((18 : Nat) : Int)) | exact (rfl : (17 : Int) = ((17 : Nat) : Int)) | exact (rfl : (19 : Int) = ((19 : Nat) : Int))) (by decide) (by decide))))
          refine wpQuiet_nil ?_
          intro _ hw'
          obtain ⟨nq2, hw''⟩ := hw'
          subst hw''
          have fz2 : ((wr.drewN nq).drewN nq2).frozen? ⟨w.heap.size + 1 + 1, j, none⟩ = false := fz
          have cz2 : ((wr.drewN nq).drewN nq2).cell? ⟨w.heap.size + 1 + 1, j, none⟩ = _ := cz
          go_wp2_with fail
          refine ⟨?_, ?measure⟩
          iterate 44 apply Exists.intro
          refine ⟨?rel, rfl⟩
          case rel => exact ⟨j + 1, by omega, by omega, by go_num, by
            have H := ((HH.out.drewN nq).drewN nq2).put j hlt (sched m j) _ (upto_next (sched m) j)
            rw [hw.out, low0, low1, World.drewN_drewN] at H
            exact H⟩
          case measure => simp [intOf]; omega
        · obtain rfl : j = 64 := by omega
          clear hlt hj
          have o0 : wr.cell? ⟨w.heap.size, 0, none⟩ = some (.int .u32 (Sha.u32 h0)) := HB.old.1 0 (by decide)
          have o1 : wr.cell? ⟨w.heap.size, 1, none⟩ = some (.int .u32 (Sha.u32 h1)) := HB.old.1 1 (by decide)
          have o2 : wr.cell? ⟨w.heap.size, 2, none⟩ = some (.int .u32 (Sha.u32 h2)) := HB.old.1 2 (by decide)
          have o3 : wr.cell? ⟨w.heap.size, 3, none⟩ = some (.int .u32 (Sha.u32 h3)) := HB.old.1 3 (by decide)
          have o4 : wr.cell? ⟨w.heap.size, 4, none⟩ = some (.int .u32 (Sha.u32 h4)) := HB.old.1 4 (by decide)
          have o5 : wr.cell? ⟨w.heap.size, 5, none⟩ = some (.int .u32 (Sha.u32 h5)) := HB.old.1 5 (by decide)
          have o6 : wr.cell? ⟨w.heap.size, 6, none⟩ = some (.int .u32 (Sha.u32 h6)) := HB.old.1 6 (by decide)
          have o7 : wr.cell? ⟨w.heap.size, 7, none⟩ = some (.int .u32 (Sha.u32 h7)) := HB.old.1 7 (by decide)
          go_wp2_with fail
          generalize hvb : wr.heap.size = vb
          go_loopw [11, 12, 13, 14, 15, 98] (fun _ _ _ _ _ i wr => ∃ (j : Nat), j ≤ 64 ∧ i = .int .i64 j ∧ vb < wr.heap.size ∧ Blk w wr ⟨h0, h1, h2, h3, h4, h5, h6, h7⟩ (fun i => if i < 64 then sched m i else 0#32) ∧ Words wr vb 8 (roundsTo K m ⟨h0, h1, h2, h3, h4, h5, h6, h7⟩ j).get) (fun _ _ _ _ _ i _ => 64 - (intOf i).toNat)
          case atStart =>
            exact ⟨0, by omega, rfl, by simp [← hvb], HB.alloc _, hvb ▸ words_row wr ⟨h0, h1, h2, h3, h4, h5, h6, h7⟩ 63⟩
          case round =>
            have hvb2 : w.heap.size + 2 < vb := by rw [← hvb]; exact HB.size
            clear HB o0 o1 o2 o3 o4 o5 o6 o7
            clear hvb
            obtain ⟨j, hj, rfl, hvs, HB, HV⟩ := hrel
            by_cases hlt : j < 64
            · have q0 : (j : Int) < 64 := by omega
              have ck : wr.cell? ⟨1, j, none⟩ = some (.int .u32 (Sha.u32 (K j))) := by rw [HB.below.cell (p := ⟨1, j, none⟩) hG]; exact hK j hlt
              have cs : wr.cell? ⟨w.heap.size + 1 + 1, j, none⟩ = some (.int .u32 (Sha.u32 (sched m j))) := by
                have h := HB.tab.1 j hlt
                simp only [if_pos hlt] at h
                exact h
              have hstep := Lib.hid (show roundsTo K m ⟨h0, h1, h2, h3, h4, h5, h6, h7⟩ (j + 1) = (roundsTo K m ⟨h0, h1, h2, h3, h4, h5, h6, h7⟩ j).step (K j) (sched m j) from rfl)
              generalize roundsTo K m ⟨h0, h1, h2, h3, h4, h5, h6, h7⟩ j = v at HV hstep
              generalize K j = kj at ck hstep
              generalize sched m j = sj at cs hstep
              obtain ⟨v0, v1, v2, v3, v4, v5, v6, v7⟩ := v
              have c0 : wr.cell? ⟨vb, 0, none⟩ = some (.int .u32 (Sha.u32 v0)) := HV.1 0 (by decide)
              have c1 : wr.cell? ⟨vb, 1, none⟩ = some (.int .u32 (Sha.u32 v1)) := HV.1 1 (by decide)
              have c2 : wr.cell? ⟨vb, 2, none⟩ = some (.int .u32 (Sha.u32 v2)) := HV.1 2 (by decide)
              have c3 : wr.cell? ⟨vb, 3, none⟩ = some (.int .u32 (Sha.u32 v3)) := HV.1 3 (by decide)
              have c4 : wr.cell? ⟨vb, 4, none⟩ = some (.int .u32 (Sha.u32 v4)) := HV.1 4 (by decide)
              have c5 : wr.cell? ⟨vb, 5, none⟩ = some (.int .u32 (Sha.u32 v5)) := HV.1 5 (by decide)
              have c6 : wr.cell? ⟨vb, 6, none⟩ = some (.int .u32 (Sha.u32 v6)) := HV.1 6 (by decide)
              have c7 : wr.cell? ⟨vb, 7, none⟩ = some (.int .u32 (Sha.u32 v7)) := HV.1 7 (by decide)
              have f0 := HV.2 0 (by decide)
              have f1 := HV.2 1 (by decide)
              have f2 := HV.2 2 (by decide)
              have f3 := HV.2 3 (by decide)
              have f4 := HV.2 4 (by decide)
              have f5 := HV.2 5 (by decide)
              have f6 := HV.2 6 (by decide)
              have f7 := HV.2 7 (by decide)
              have HH := Lib.hid (And.intro HB HV)
              clear HB HV
              go_wp2_with fail
              go_quiet (fail)
              go_wp2_with fail
              go_quiet ((go_at_call 42; first | exact turn_q2 _ _ _ _ _ _ (by first | exact (rfl : (6 : Int) = ((6 : Nat) : Int)) | exact (rfl : (11 : Int) = ((11 : Nat) : Int)) | exact (rfl : (25 : Int) = ((25 : Nat) : Int))) (by decide) (by decide) | exact turn_q _ _ _ _ _ (by first | exact (rfl : (6 : Int) = ((6 : Nat) : Int)) | exact (rfl : (11 : Int) = ((11 : Nat) : Int)) | exact (rfl : (25 : Int) = ((25 : Nat) : Int))) (by decide) (by decide)))
              go_wp2_with fail
              go_quiet ((go_at_call 42; first | exact turn_q2 _ _ _ _ _ _ (by first | exact (rfl : (2 : Int) = ((2 : Nat) : Int)) | exact (rfl : (13 : Int) = ((13 : Nat) : Int)) | exact (rfl : (22 : Int) = ((22 : Nat) : Int))) (by decide) (by decide) | exact turn_q _ _ _ _ _ (by first | exact (rfl : (2 : Int) = ((2 : Nat) : Int)) | exact (rfl : (13 : Int) = ((13 : Nat) : Int)) | exact (rfl : (22 : Int) = ((22 : Nat) : Int))) (by decide) (by decide)))
              go_wp2_with fail
              refine ⟨?_, ?measure⟩
              repeat apply Exists.intro
              refine ⟨?rel, rfl⟩
              case rel =>
                exact ⟨j + 1, by omega, by go_num, by rw [hstep.out]; exact rel3 hvb2 hvs HH.out _ _ _ _ _ _ _ _ _ (five_words _ _ _ _ _) rfl rfl rfl (five_words' _ _ _ _ _) rfl rfl rfl⟩
              case measure => simp [intOf]; omega
            · obtain rfl : j = 64 := by omega
              clear hlt hj
              have HS := sum4_start hvb2 hvs HB HV
              clear HB HV hvb2 hvs
              generalize hx : roundsTo K m ⟨h0, h1, h2, h3, h4, h5, h6, h7⟩ 64 = x at HS
              have hX := Lib.hid hx
              clear hx
              go_wp2_with fail
              go_loopw [16, 178] (fun _ i wr => ∃ (j : Nat), j ≤ 8 ∧ i = .int .i64 j ∧ Sum4 w wr vb ⟨h0, h1, h2, h3, h4, h5, h6, h7⟩ x j) (fun _ i _ => 8 - (intOf i).toNat)
              case atStart => exact ⟨0, by omega, rfl, HS⟩
              case round =>
                clear HS
                obtain ⟨j, hj, rfl, HS⟩ := hrel
                by_cases hlt : j < 8
                · have q0 : (0 : Int) ≤ (j : Int) := by omega
                  have q1 : (j : Int) < 8 := by omega
                  have c0 : wr.cell? ⟨w.heap.size, j, none⟩ = some (.int .u32 (Sha.u32 (H8.get ⟨h0, h1, h2, h3, h4, h5, h6, h7⟩ j))) := by
                    have h := HS.sum.1 j hlt
                    simp only [Nat.lt_irrefl, if_false] at h
                    exact h
                  have c1 : wr.cell? ⟨vb, j, none⟩ = some (.int .u32 (Sha.u32 (x.get j))) := HS.vw.1 j hlt
                  have f0 : wr.frozen? ⟨w.heap.size, j, none⟩ = false := HS.sum.2 j hlt
                  have HH := Lib.hid HS
                  clear HS
                  generalize hg0 : H8.get ⟨h0, h1, h2, h3, h4, h5, h6, h7⟩ j = y0 at c0
                  generalize hg1 : x.get j = y1 at c1
                  have HG := Lib.hid (And.intro hg0 hg1)
                  clear hg0 hg1
                  go_wp2_with fail
                  go_still_tail 8, (by kernel_rfl)
                  change wpList _ _ _ _ _ wr.drew
                  go_wp2_with fail
                  refine ⟨?_, ?measure⟩
                  repeat apply Exists.intro
                  refine ⟨?rel, rfl⟩
                  case rel => exact ⟨j + 1, by omega, by go_num, HH.out.drew.put hlt _ (by rw [HG.out.1, HG.out.2])⟩
                  case measure => simp [intOf]; omega
                · obtain rfl : j = 8 := by omega
                  clear hlt hj
                  have hy := HS.done
                  generalize hgy : H8.add ⟨h0, h1, h2, h3, h4, h5, h6, h7⟩ x = y at hy
                  have HY := Lib.hid (And.intro hgy HS.below)
                  obtain ⟨y0, y1, y2, y3, y4, y5, y6, y7⟩ := y
                  have o0 : wr.cell? ⟨w.heap.size, 0, none⟩ = some (.int .u32 (Sha.u32 y0)) := hy.1 0 (by decide)
                  have o1 : wr.cell? ⟨w.heap.size, 1, none⟩ = some (.int .u32 (Sha.u32 y1)) := hy.1 1 (by decide)
                  have o2 : wr.cell? ⟨w.heap.size, 2, none⟩ = some (.int .u32 (Sha.u32 y2)) := hy.1 2 (by decide)
                  have o3 : wr.cell? ⟨w.heap.size, 3, none⟩ = some (.int .u32 (Sha.u32 y3)) := hy.1 3 (by decide)
                  have o4 : wr.cell? ⟨w.heap.size, 4, none⟩ = some (.int .u32 (Sha.u32 y4)) := hy.1 4 (by decide)
                  have o5 : wr.cell? ⟨w.heap.size, 5, none⟩ = some (.int .u32 (Sha.u32 y5)) := hy.1 5 (by decide)
                  have o6 : wr.cell? ⟨w.heap.size, 6, none⟩ = some (.int .u32 (Sha.u32 y6)) := hy.1 6 (by decide)
                  have o7 : wr.cell? ⟨w.heap.size, 7, none⟩ = some (.int .u32 (Sha.u32 y7)) := hy.1 7 (by decide)
                  have z0 : wr.cell? ⟨w.heap.size + 1, 0, none⟩ = some (.int .u32 (Sha.u32 0#32)) := HS.out2.1 0 (by decide)
                  have z1 : wr.cell? ⟨w.heap.size + 1, 1, none⟩ = some (.int .u32 (Sha.u32 0#32)) := HS.out2.1 1 (by decide)
                  have z2 : wr.cell? ⟨w.heap.size + 1, 2, none⟩ = some (.int .u32 (Sha.u32 0#32)) := HS.out2.1 2 (by decide)
                  have z3 : wr.cell? ⟨w.heap.size + 1, 3, none⟩ = some (.int .u32 (Sha.u32 0#32)) := HS.out2.1 3 (by decide)
                  have z4 : wr.cell? ⟨w.heap.size + 1, 4, none⟩ = some (.int .u32 (Sha.u32 0#32)) := HS.out2.1 4 (by decide)
                  have z5 : wr.cell? ⟨w.heap.size + 1, 5, none⟩ = some (.int .u32 (Sha.u32 0#32)) := HS.out2.1 5 (by decide)
                  have z6 : wr.cell? ⟨w.heap.size + 1, 6, none⟩ = some (.int .u32 (Sha.u32 0#32)) := HS.out2.1 6 (by decide)
                  have z7 : wr.cell? ⟨w.heap.size + 1, 7, none⟩ = some (.int .u32 (Sha.u32 0#32)) := HS.out2.1 7 (by decide)
                  have p0 : wr.frozen? ⟨w.heap.size + 1, 0, none⟩ = false := HS.out 0 (by decide)
                  have p1 : wr.frozen? ⟨w.heap.size + 1, 1, none⟩ = false := HS.out 1 (by decide)
                  have p2 : wr.frozen? ⟨w.heap.size + 1, 2, none⟩ = false := HS.out 2 (by decide)
                  have p3 : wr.frozen? ⟨w.heap.size + 1, 3, none⟩ = false := HS.out 3 (by decide)
                  have p4 : wr.frozen? ⟨w.heap.size + 1, 4, none⟩ = false := HS.out 4 (by decide)
                  have p5 : wr.frozen? ⟨w.heap.size + 1, 5, none⟩ = false := HS.out 5 (by decide)
                  have p6 : wr.frozen? ⟨w.heap.size + 1, 6, none⟩ = false := HS.out 6 (by decide)
                  have p7 : wr.frozen? ⟨w.heap.size + 1, 7, none⟩ = false := HS.out 7 (by decide)
                  have hz := Lib.hid HS.out2
                  clear hgy hy HS
                  go_wp2_with fail
                  have he := words_eight hz.out ⟨y0, y1, y2, y3, y4, y5, y6, y7⟩ _ _ _ _ _ _ _ _ rfl rfl rfl rfl rfl rfl rfl rfl
                  have hb : Below w.heap.size w _ := (((((((HY.out.2.setCell (p := ⟨w.heap.size + 1, 0, none⟩) (by show w.heap.size ≤ w.heap.size + 1; omega) (.int .u32 (Sha.u32 y0))).setCell (p := ⟨w.heap.size + 1, 1, none⟩) (by show w.heap.size ≤ w.heap.size + 1; omega) (.int .u32 (Sha.u32 y1))).setCell (p := ⟨w.heap.size + 1, 2, none⟩) (by show w.heap.size ≤ w.heap.size + 1; omega) (.int .u32 (Sha.u32 y2))).setCell (p := ⟨w.heap.size + 1, 3, none⟩) (by show w.heap.size ≤ w.heap.size + 1; omega) (.int .u32 (Sha.u32 y3))).setCell (p := ⟨w.heap.size + 1, 4, none⟩) (by show w.heap.size ≤ w.heap.size + 1; omega) (.int .u32 (Sha.u32 y4))).setCell (p := ⟨w.heap.size + 1, 5, none⟩) (by show w.heap.size ≤ w.heap.size + 1; omega) (.int .u32 (Sha.u32 y5))).setCell (p := ⟨w.heap.size + 1, 6, none⟩) (by show w.heap.size ≤ w.heap.size + 1; omega) (.int .u32 (Sha.u32 y6))).setCell (p := ⟨w.heap.size + 1, 7, none⟩) (by show w.heap.size ≤ w.heap.size + 1; omega) (.int .u32 (Sha.u32 y7))
                  clear o0 o1 o2 o3 o4 o5 o6 o7 z0 z1 z2 z3 z4 z5 z6 z7 p0 p1 p2 p3 p4 p5 p6 p7 hz
                  generalize World.setCell _ ⟨w.heap.size + 1, 7, none⟩ _ = W at he hb ⊢
                  have r0 : W.cell? ⟨w.heap.size + 1, 0, none⟩ = some (.int .u32 (Sha.u32 y0)) := he.1 0 (by decide)
                  have r1 : W.cell? ⟨w.heap.size + 1, 1, none⟩ = some (.int .u32 (Sha.u32 y1)) := he.1 1 (by decide)
                  have r2 : W.cell? ⟨w.heap.size + 1, 2, none⟩ = some (.int .u32 (Sha.u32 y2)) := he.1 2 (by decide)
                  have r3 : W.cell? ⟨w.heap.size + 1, 3, none⟩ = some (.int .u32 (Sha.u32 y3)) := he.1 3 (by decide)
                  have r4 : W.cell? ⟨w.heap.size + 1, 4, none⟩ = some (.int .u32 (Sha.u32 y4)) := he.1 4 (by decide)
                  have r5 : W.cell? ⟨w.heap.size + 1, 5, none⟩ = some (.int .u32 (Sha.u32 y5)) := he.1 5 (by decide)
                  have r6 : W.cell? ⟨w.heap.size + 1, 6, none⟩ = some (.int .u32 (Sha.u32 y6)) := he.1 6 (by decide)
                  have r7 : W.cell? ⟨w.heap.size + 1, 7, none⟩ = some (.int .u32 (Sha.u32 y7)) := he.1 7 (by decide)
                  refine bodyPost_ret (v := .agg #[.int .u32 (Sha.u32 y0), .int .u32 (Sha.u32 y1), .int .u32 (Sha.u32 y2), .int .u32 (Sha.u32 y3), .int .u32 (Sha.u32 y4), .int .u32 (Sha.u32 y5), .int .u32 (Sha.u32 y6), .int .u32 (Sha.u32 y7)]) (by simp [results, Tryd.results33, go_sem, r0, r1, r2, r3, r4, r5, r6, r7]) rfl ⟨?_, hb⟩
                  have e : blockOf K m ⟨h0, h1, h2, h3, h4, h5, h6, h7⟩ = ⟨y0, y1, y2, y3, y4, y5, y6, y7⟩ := by rw [← HY.out.1, ← hX.out]; rfl
                  rw [e]
end Go.Proofs.YtnmooegegknmoaaDoor
