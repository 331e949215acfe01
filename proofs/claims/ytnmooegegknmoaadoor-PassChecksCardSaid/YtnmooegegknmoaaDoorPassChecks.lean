/-
  The statement PassChecks.
-/
import Derived.Test.YtnmooegegknmoaaDoorPassLawsB
import Derived.Test.YtnmooegegknmoaaDoorOpenB
import Derived.BigQuiet
import Derived.Deep.Fields
import Derived.IntWalk
namespace Go.Proofs.YtnmooegegknmoaaDoor
open Go.RowKit Go.Proofs.Sha Go.Proofs.Buf Go.Proofs.Reg

/-- The statement's argument. -/
def tryV (s p o : ByteArray) (n : Nat) (a : Int) (x : UInt8) : Value := .agg #[.string s, .string p, .string o, .int .u64 ((n : Nat) : Int), .int .i64 a, .int .u8 ((x.toNat : Nat) : Int)]

theorem below_drewN {w w' : World} {k : Nat} (h : Below k w w') (n : Nat) : Below k w (w'.drewN n) := by
  induction n with
  | zero => exact h
  | succ n ih => exact ih.drew

theorem xor_byte (c x : UInt8) : bits BinOp.xor IntKind.u8 ((c.toNat : Nat) : Int) ((x.toNat : Nat) : Int) = (((c ^^^ x).toNat : Nat) : Int) := by
  rw [u8_xor_nat _ _ c.toNat_lt x.toNat_lt, UInt8.toNat_xor]
theorem bytesAt_drewN {w : World} {B : Nat} {l : List UInt8} (h : BytesAt w B l) (n : Nat) : BytesAt (w.drewN n) B l := h

set_option maxHeartbeats 1000000 in
theorem passChecks_walk (s p o : ByteArray) (n : Nat) (a : Int) (x : UInt8) (w : World) (hn : n < 18446744073709551616) (hp : p.size ≤ maxLen) (ho : o.size ≤ maxLen) (hL : Laid w) : Calls Tryd.prog 9 #[tryV s p o n a x] w fun e w' => e = .returned (.bool true) ∧ Below w.heap.size w w' := by
  have HL := Lib.hid hL
  clear hL
  unfold tryV
  have HB0 := Lib.hid ((Below.refl w.heap.size w).alloc (Nat.le_refl _) (.cells #[.string s, .string p, .string o, .int .u64 ((n : Nat) : Int), .int .i64 a, .int .u8 ((x.toNat : Nat) : Int)] 50))
  have hor : 2000 < p.size ∨ (p.size ≤ 2000 ∧ 2000 < o.size) ∨ (p.size ≤ 2000 ∧ o.size ≤ 2000) := by omega
  rcases hor with h1 | ⟨h1, h2⟩ | ⟨h1, h2⟩
  · go_enter Tryd.func9, Tryd.ntmps9
    go_wp2_with fail
    go_quiet (fail)
    go_wp2_with fail
    have hb0 := below_drewN HB0.out nq
    refine (awake4_any _ (HL.out.below hb0 HL.out.size)).mono ?_
    rintro e w1 ⟨rfl, hb1⟩
    go_wp2_with fail
    go_ret
    exact ⟨rfl, hb0.trans (hb1.mono hb0.size)⟩
  · go_enter Tryd.func9, Tryd.ntmps9
    go_wp2_with fail
    go_quiet (fail)
    go_wp2_with fail
    have hb0 := below_drewN HB0.out nq
    refine (awake4_any _ (HL.out.below hb0 HL.out.size)).mono ?_
    rintro e w1 ⟨rfl, hb1⟩
    go_wp2_with fail
    go_ret
    exact ⟨rfl, hb0.trans (hb1.mono hb0.size)⟩
  · go_enter Tryd.func9, Tryd.ntmps9
    go_wp2_with fail
    go_quiet (fail)
    go_wp2_with fail
    have hb0 := below_drewN HB0.out nq
    have HM := Lib.hid (makeV_eq p n)
    refine (refMake_any p n _ hn hp).mono ?_
    rintro e w2 ⟨rfl, hb2⟩
    rw [HM.out]
    have hc4 : w2.cell? ⟨w.heap.size, 4, none⟩ = some (.int .i64 a) := by rw [hb2.cell (p := ⟨w.heap.size, 4, none⟩) (by simp)]; simp
    have hc5 : w2.cell? ⟨w.heap.size, 5, none⟩ = some (.int .u8 (x.toNat : Nat)) := by rw [hb2.cell (p := ⟨w.heap.size, 5, none⟩) (by simp)]; simp
    have HB2 := Lib.hid (hb0.trans (hb2.mono hb0.size))
    have hsz := HB2.out.size
    have hlt : w.heap.size < w2.heap.size := by have := hb2.size; simp at this; omega
    clear HB0 hb0 hb2
    by_cases h0 : mkErr p = 0
    · rw [h0] at HM ⊢
      have h88 : (mkText p n).size = 88 := by rw [← bs_length, mkText_good n h0, passOf_length, Oct.put_length]
      generalize mkText p n = M at h88
      clear h0 HM
      have kc := fun (w : World) (s : ByteArray) => run_bytes_of_string (P := Tryd.prog) w 9 51 5 s Tryd.underlying9 Tryd.underlying51 Tryd.underlying5
      go_wp2_with fail
      have hll : M.data.toList.length = 88 := by rw [len_bytes']; exact h88
      have HLL := Lib.hid hll
      clear hll
      obtain ⟨k, hk, hk88⟩ : ∃ k : Nat, wrap64 ((IntKind.u64.wrap a).tmod 88) = ((k : Nat) : Int) ∧ k < 88 := by
        have h0 : 0 ≤ IntKind.u64.wrap a ∧ IntKind.u64.wrap a < 18446744073709551616 := by rw [IntKind.wrap_u64]; omega
        generalize IntKind.u64.wrap a = q at h0
        obtain ⟨q, rfl⟩ := Int.eq_ofNat_of_zero_le h0.1
        refine ⟨q % 88, ?_, Nat.mod_lt _ (by omega)⟩
        rw [Int.tmod_eq_emod_of_nonneg (by omega), IntWalk.wrap64_in _ (by omega)]
        rfl
      have hat := (bytesAt_new w2 M (grownCap w2 88 0 5) 5).drew
      have hb3 := (HB2.out.alloc HB2.out.size (.cells (bytesRow M (grownCap w2 88 0 5)) 5 ((bytesRow M (grownCap w2 88 0 5)).size, (bytesRow M (grownCap w2 88 0 5)).size + 1))).drew
      have hd4 : (w2.alloc (.cells (bytesRow M (grownCap w2 88 0 5)) 5 ((bytesRow M (grownCap w2 88 0 5)).size, (bytesRow M (grownCap w2 88 0 5)).size + 1))).drew.cell? ⟨w.heap.size, 4, none⟩ = some (.int .i64 a) := by
        show (w2.alloc _).cell? _ = _
        rw [World.cell?_alloc_past _ _ _ hlt]; exact hc4
      have hd5 : (w2.alloc (.cells (bytesRow M (grownCap w2 88 0 5)) 5 ((bytesRow M (grownCap w2 88 0 5)).size, (bytesRow M (grownCap w2 88 0 5)).size + 1))).drew.cell? ⟨w.heap.size, 5, none⟩ = some (.int .u8 (x.toNat : Nat)) := by
        show (w2.alloc _).cell? _ = _
        rw [World.cell?_alloc_past _ _ _ hlt]; exact hc5
      generalize (w2.alloc (.cells (bytesRow M (grownCap w2 88 0 5)) 5 ((bytesRow M (grownCap w2 88 0 5)).size, (bytesRow M (grownCap w2 88 0 5)).size + 1))).drew = w3 at hat hb3 hd4 hd5 ⊢
      generalize grownCap w2 88 0 5 = cap
      clear hc4 hc5 kc
      have HB3 := Lib.hid hb3
      clear hb3
      have hcell := hat.1 k (by rw [HLL.out]; exact hk88)
      have hfz := hat.2 k (by rw [HLL.out]; exact hk88)
      have hkl : k < M.data.toList.length := by rw [HLL.out]; exact hk88
      have HAT := Lib.hid hat
      clear hat
      generalize hcc : M.data.toList[k]'hkl = c at hcell
      clear hcc hkl
      have hc := c.toNat_lt
      generalize w2.heap.size = B at *
      refine Tail.region_quiet_tail 14 (by kernel_rfl) (by kernel_rfl) ?_
      simp only [List.take_succ_cons, List.take_zero, List.drop_succ_cons, List.drop_zero]
      repeat (go_big_quiet_step (fail))
      refine wpQuiet_nil ?_
      intro _ hw'
      obtain ⟨nq2, hw''⟩ := hw'
      subst hw''
      have fz2 : (w3.drewN nq2).frozen? ⟨B, k, none⟩ = false := hfz
      have cz2 : (w3.drewN nq2).cell? ⟨B, k, none⟩ = _ := hcell
      have hst := ((bytesAt_drewN HAT.out nq2).set k (by rw [HLL.out]; exact hk88) (c ^^^ x)).string (P := Tryd.prog) (cap := cap) 88 (by rw [List.length_set, HLL.out]) Tryd.underlying51 Tryd.underlying5 Tryd.underlying9
      rw [← xor_byte c x] at hst
      have hb4 := (below_drewN HB3.out nq2).setCell (p := ⟨B, k, none⟩) hsz (.int .u8 (bits BinOp.xor IntKind.u8 ((c.toNat : Nat) : Int) ((x.toNat : Nat) : Int)))
      have HB2 := Lib.hid hb4
      clear hb4
      generalize (M.data.toList.set k (c ^^^ x)).toArray = M' at hst
      go_wp2_with fail
      clear hst fz2 cz2 hcell hfz hd4 hd5 hk
      generalize (ByteArray.mk M') = M
      refine (awake4_any _ (HL.out.below HB2.out HL.out.size)).mono ?_
      rintro e w3 ⟨rfl, hb3⟩
      have HB3 := Lib.hid (HB2.out.trans (hb3.mono HB2.out.size))
      clear hb3
      have HA1 := Lib.hid (fun w hL => check_any s p w hp hL)
      have HR1 := Lib.hid (fun w => refCheck_any s p w hp)
      have HA2 := Lib.hid (fun w hL => check_any M p w hp hL)
      have HR2 := Lib.hid (fun w => refCheck_any M p w hp)
      have HA3 := Lib.hid (fun w hL => check_any M o w ho hL)
      have HR3 := Lib.hid (fun w => refCheck_any M o w ho)
      generalize checkOf s p = k1 at HA1 HR1
      generalize checkOf M p = k2 at HA2 HR2
      generalize checkOf M o = k3 at HA3 HR3
      go_wp2_with fail
      refine (HA1.out _ (HL.out.below HB3.out HL.out.size)).mono ?_
      rintro e w4 ⟨rfl, hb4⟩
      have HB4 := Lib.hid (HB3.out.trans (hb4.mono HB3.out.size))
      clear hb4
      go_wp2_with fail
      refine (HR1.out _).mono ?_
      rintro e w5 ⟨rfl, hb5⟩
      have HB5 := Lib.hid (HB4.out.trans (hb5.mono HB4.out.size))
      clear hb5
      go_wp2_with fail
      refine (HA2.out _ (HL.out.below HB5.out HL.out.size)).mono ?_
      rintro e w6 ⟨rfl, hb6⟩
      have HB6 := Lib.hid (HB5.out.trans (hb6.mono HB5.out.size))
      clear hb6
      go_wp2_with fail
      refine (HR2.out _).mono ?_
      rintro e w7 ⟨rfl, hb7⟩
      have HB7 := Lib.hid (HB6.out.trans (hb7.mono HB6.out.size))
      clear hb7
      go_wp2_with fail
      refine (HA3.out _ (HL.out.below HB7.out HL.out.size)).mono ?_
      rintro e w8 ⟨rfl, hb8⟩
      have HB8 := Lib.hid (HB7.out.trans (hb8.mono HB7.out.size))
      clear hb8
      go_wp2_with fail
      refine (HR3.out _).mono ?_
      rintro e w9 ⟨rfl, hb9⟩
      have HB9 := Lib.hid (HB8.out.trans (hb9.mono HB8.out.size))
      clear hb9
      go_wp2_with fail
      go_ret
      exact ⟨rfl, HB9.out⟩
    · have hE : 1 ≤ mkErr p := by omega
      clear HM h0
      generalize mkErr p = E at hE
      generalize mkText p n = M
      go_wp2_with fail
      refine (awake4_any _ (HL.out.below HB2.out HL.out.size)).mono ?_
      rintro e w3 ⟨rfl, hb3⟩
      have HB3 := Lib.hid (HB2.out.trans (hb3.mono HB2.out.size))
      clear hb3
      have HA1 := Lib.hid (fun w hL => check_any s p w hp hL)
      have HR1 := Lib.hid (fun w => refCheck_any s p w hp)
      have HA2 := Lib.hid (fun w hL => check_any M p w hp hL)
      have HR2 := Lib.hid (fun w => refCheck_any M p w hp)
      have HA3 := Lib.hid (fun w hL => check_any M o w ho hL)
      have HR3 := Lib.hid (fun w => refCheck_any M o w ho)
      generalize checkOf s p = k1 at HA1 HR1
      generalize checkOf M p = k2 at HA2 HR2
      generalize checkOf M o = k3 at HA3 HR3
      go_wp2_with fail
      refine (HA1.out _ (HL.out.below HB3.out HL.out.size)).mono ?_
      rintro e w4 ⟨rfl, hb4⟩
      have HB4 := Lib.hid (HB3.out.trans (hb4.mono HB3.out.size))
      clear hb4
      go_wp2_with fail
      refine (HR1.out _).mono ?_
      rintro e w5 ⟨rfl, hb5⟩
      have HB5 := Lib.hid (HB4.out.trans (hb5.mono HB4.out.size))
      clear hb5
      go_wp2_with fail
      refine (HA2.out _ (HL.out.below HB5.out HL.out.size)).mono ?_
      rintro e w6 ⟨rfl, hb6⟩
      have HB6 := Lib.hid (HB5.out.trans (hb6.mono HB5.out.size))
      clear hb6
      go_wp2_with fail
      refine (HR2.out _).mono ?_
      rintro e w7 ⟨rfl, hb7⟩
      have HB7 := Lib.hid (HB6.out.trans (hb7.mono HB6.out.size))
      clear hb7
      go_wp2_with fail
      refine (HA3.out _ (HL.out.below HB7.out HL.out.size)).mono ?_
      rintro e w8 ⟨rfl, hb8⟩
      have HB8 := Lib.hid (HB7.out.trans (hb8.mono HB7.out.size))
      clear hb8
      go_wp2_with fail
      refine (HR3.out _).mono ?_
      rintro e w9 ⟨rfl, hb9⟩
      have HB9 := Lib.hid (HB8.out.trans (hb9.mono HB8.out.size))
      clear hb9
      go_wp2_with fail
      go_ret
      exact ⟨rfl, HB9.out⟩

/-- The statement's argument, read. -/
structure TryZ where
  s : ByteArray
  p : ByteArray
  o : ByteArray
  n : BitVec 64
  a : Int
  x : UInt8
def TryZ.val (z : TryZ) : Value := tryV z.s z.p z.o z.n.toNat z.a z.x
theorem passChecks_all (z : TryZ) (w : World) (hz : z.p.size ≤ maxLen ∧ z.o.size ≤ maxLen) (hL : Laid w) : Calls Tryd.prog 9 #[z.val] w fun e w' => e = .returned (.bool true) ∧ Below w.heap.size w w' :=
  passChecks_walk z.s z.p z.o z.n.toNat z.a z.x w z.n.isLt hz.1 hz.2 hL
open Go.ChangeShapes Go.WideShapes in
/-- The struct of six, by value. -/
theorem try_open {H : Type} {enc : TypeId × Value → H} {w : World} {base : Nat} {spare : Nat → Bool} {held : Bool} {r : Reach} {b0 : Nat} {v : Value} {d : DataW H} {p : List MemPlace}
    (hv : Value.okWide Tryd.prog w r b0 50 v) (h : DataW.Trod enc Tryd.prog w base spare held 50 v d p) :
    ∃ z : TryZ, v = z.val ∧ (z.p.size ≤ maxLen ∧ z.o.size ≤ maxLen) := by
  obtain ⟨cs, rfl, hsz⟩ := okWide_struct Tryd.underlying50 hv
  have hC : Tryd.prog.cellsOf 50 = 6 := by kernel_rfl
  have h9 : Tryd.prog.cellsOf 9 = 1 := by kernel_rfl
  have h37 : Tryd.prog.cellsOf 37 = 1 := by kernel_rfl
  have h3 : Tryd.prog.cellsOf 3 = 1 := by kernel_rfl
  have h5 : Tryd.prog.cellsOf 5 = 1 := by kernel_rfl
  obtain ⟨cs⟩ := cs
  rw [hC] at hsz
  match cs, hsz with
  | [c0, c1, c2, c3, c4, c5], _ =>
    obtain ⟨fuel, hf⟩ := h
    obtain ⟨xs, m, _, _, _, hlen, hget⟩ := DataW.trod_struct Tryd.underlying50 hf
    match xs, hlen with
    | [y0, y1, y2, y3, y4, y5], _ =>
      have k0 : DataW.trod enc Tryd.prog w base spare held m 9 [c0] = some y0 := by simpa [Value.cells, h9] using hget 0 _ rfl
      have k1 : DataW.trod enc Tryd.prog w base spare held m 9 [c1] = some y1 := by simpa [Value.cells, h9] using hget 1 _ rfl
      have k2 : DataW.trod enc Tryd.prog w base spare held m 9 [c2] = some y2 := by simpa [Value.cells, h9] using hget 2 _ rfl
      have k3 : DataW.trod enc Tryd.prog w base spare held m 37 [c3] = some y3 := by simpa [Value.cells, h37] using hget 3 _ rfl
      have k4 : DataW.trod enc Tryd.prog w base spare held m 3 [c4] = some y4 := by simpa [Value.cells, h3] using hget 4 _ rfl
      have k5 : DataW.trod enc Tryd.prog w base spare held m 5 [c5] = some y5 := by simpa [Value.cells, h5] using hget 5 _ rfl
      obtain ⟨s, e0, _, _⟩ := DataW.trod_string Tryd.underlying9 k0
      obtain ⟨p, e1, _, z1⟩ := DataW.trod_string Tryd.underlying9 k1
      obtain ⟨o, e2, _, z2⟩ := DataW.trod_string Tryd.underlying9 k2
      obtain ⟨n, e3, _, z3⟩ := DataW.trod_int Tryd.underlying37 k3
      obtain ⟨a, e4, _, _⟩ := DataW.trod_int Tryd.underlying3 k4
      obtain ⟨x, e5, _, z5⟩ := DataW.trod_int Tryd.underlying5 k5
      obtain ⟨n, rfl⟩ := bv_of_wf_u64 z3
      obtain ⟨x, rfl⟩ := bv_of_wf_u8 z5
      simp only [List.cons.injEq, and_true] at e0 e1 e2 e3 e4 e5
      subst e0 e1 e2 e3 e4 e5
      exact ⟨⟨s, p, o, n, a, x⟩, rfl, z1, z2⟩
end Go.Proofs.YtnmooegegknmoaaDoor
