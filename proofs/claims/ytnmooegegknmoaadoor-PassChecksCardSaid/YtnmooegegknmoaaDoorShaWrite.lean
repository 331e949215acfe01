/-
  The contract of the program's Write.
-/
import Derived.Test.YtnmooegegknmoaaDoorShaState
import Derived.Outline
import Derived.Test.YtnmooegegknmoaaDoorRegion
namespace Go.Proofs.YtnmooegegknmoaaDoor
open Go.RowKit Go.Proofs.Sha Go.Proofs.Buf Go.Proofs.Reg

theorem block_ex (x : H8) (B off cap : Nat) (m : Nat → UInt8) (w : World) (hG : 1 < w.heap.size) (hK : ∀ i, i < 64 → w.cell? ⟨1, i, none⟩ = some (.int .u32 (u32 (KW i)))) (hB : B < w.heap.size) (hm : ∀ i, i < 64 → w.cell? ⟨B, off + i, none⟩ = some (.int .u8 (((m i).toNat : Nat) : Int))) :
    Calls Tryd.prog 33 #[.agg #[.int .u32 (u32 x.a), .int .u32 (u32 x.b), .int .u32 (u32 x.c), .int .u32 (u32 x.d), .int .u32 (u32 x.e), .int .u32 (u32 x.f), .int .u32 (u32 x.g), .int .u32 (u32 x.h)], .slice (some ⟨B, off, none⟩) 64 cap] w fun e w' => ∃ y0 y1 y2 y3 y4 y5 y6 y7, e = .returned (.agg #[.int .u32 (u32 y0), .int .u32 (u32 y1), .int .u32 (u32 y2), .int .u32 (u32 y3), .int .u32 (u32 y4), .int .u32 (u32 y5), .int .u32 (u32 y6), .int .u32 (u32 y7)]) ∧ Hid (blockOf KW m x = ⟨y0, y1, y2, y3, y4, y5, y6, y7⟩) ∧ Hid (Below w.heap.size w w') :=
  (block_any x B off cap m KW w hG hK hB hm).mono fun _ _ ⟨he, hb⟩ => ⟨_, _, _, _, _, _, _, _, he, rfl, hb⟩

/-- What stands in the first j of some texts. -/
def joinTo (ps : List ByteArray) (j : Nat) : List UInt8 := (ps.take j).flatMap bs
theorem joinTo_zero (ps : List ByteArray) : joinTo ps 0 = [] := rfl
theorem joinTo_next (ps : List ByteArray) (j : Nat) (h : j < ps.length) : joinTo ps (j + 1) = joinTo ps j ++ bs ps[j] := by
  unfold joinTo
  rw [List.take_succ_eq_append_getElem h, List.flatMap_append]
  congr 1
  simp [List.flatMap_cons]
theorem joinTo_le (ps : List ByteArray) (j k : Nat) (h : j ≤ k) : (joinTo ps j).length ≤ (joinTo ps k).length := by
  unfold joinTo
  have e : ps.take j = (ps.take k).take j := by rw [List.take_take, Nat.min_eq_left h]
  rw [e, ← List.take_append_drop j (ps.take k), List.flatMap_append, List.length_append]
  simp
def joinAll (ps : List ByteArray) : List UInt8 := ps.flatMap bs
theorem joinTo_all (ps : List ByteArray) : joinTo ps ps.length = joinAll ps := by unfold joinTo joinAll; rw [List.take_length]

/-- What a write leaves. -/
def Wrote (B : Nat) (v : Value) (l : List UInt8) (w : World) (e : Ending) (w' : World) : Prop := e = .returned (.tuple #[]) ∧ ∃ v', St w' B v' l l.length ∧ Upd w w' B v v'

theorem info5 : (Tryd.prog.info? 5).map (fun i => (i.zero, i.size, i.bytes)) = some (some (.int .u8 0), 1, 1) := by kernel_rfl

/-- Eight words are stored at a block's head. -/
def set8 (w : World) (B : Nat) (y : H8) : World :=
  (((((((w.setCell ⟨B, 0, none⟩ (.int .u32 (u32 y.a))).setCell ⟨B, 1, none⟩ (.int .u32 (u32 y.b))).setCell ⟨B, 2, none⟩ (.int .u32 (u32 y.c))).setCell ⟨B, 3, none⟩ (.int .u32 (u32 y.d))).setCell ⟨B, 4, none⟩ (.int .u32 (u32 y.e))).setCell ⟨B, 5, none⟩ (.int .u32 (u32 y.f))).setCell ⟨B, 6, none⟩ (.int .u32 (u32 y.g))).setCell ⟨B, 7, none⟩ (.int .u32 (u32 y.h))
theorem set8_size (w : World) (B : Nat) (y : H8) : (set8 w B y).heap.size = w.heap.size := by simp [set8, World.setCell]
theorem set8_cell (w : World) (B : Nat) (y : H8) (p : Addr) (h : p.block ≠ B ∨ 8 ≤ p.off) : (set8 w B y).cell? p = w.cell? p := by
  unfold set8
  repeat rw [World.cell?_setCell_other _ _ _ _ (by intro e; subst e; simp at h)]
theorem set8_frozen (w : World) (B : Nat) (y : H8) (p : Addr) : (set8 w B y).frozen? p = w.frozen? p := by
  unfold set8
  repeat rw [World.frozen?_setCell]
theorem set8_words {w : World} {B : Nat} {f : Nat → BitVec 32} (h : Words w B 8 f) (y : H8) : Words (set8 w B y) B 8 y.get :=
  words_eight h y _ _ _ _ _ _ _ _ rfl rfl rfl rfl rfl rfl rfl rfl
theorem set8_buf {w : World} {B : Nat} {v : Value} {l : List UInt8} (h : Buf w (B + 1) 5 v l) (y : H8) : Buf (set8 w B y) (B + 1) 5 v l := by
  unfold set8
  repeat refine ownsRow_setCell_below ?_ (by show B < B + 1; omega) _
  exact h
theorem set8_upd {w w' : World} {B : Nat} {v v' : Value} (h : Upd w w' B v v') (y : H8) : Upd w (set8 w' B y) B v v' :=
  (((((((h.put 0 _).put 1 _).put 2 _).put 3 _).put 4 _).put 5 _).put 6 _).put 7 _
/-- A block is full: the words are turned, the rest is laid aside. -/
theorem _root_.Go.Proofs.Sha.St.full {w w2 W : World} {B : Nat} {v : Value} {l p : List UInt8} {n : Nat} {y : H8} (h : St w B v l n) (hp : (restOf l).length + p.length = 64) (hb : Below w.heap.size w w2) (hy : blockOf KW (fun i => (restOf l ++ p).getD i 0) (wordsOf KW H0 l) = y) (hW : set8 w2 B y = W) :
    W.cell? ⟨B, 8, none⟩ = some v ∧ W.frozen? ⟨B, 8, none⟩ = false ∧ Hid (St (W.setCell ⟨B, 8, none⟩ (.slice none 0 0)) B (.slice none 0 0) (l ++ p) n) := by
  have h2 := h.below hb
  have hlo := h.lo
  have hs := state_full KW H0 l p hp
  have e1 : W.heap.size = w2.heap.size := by rw [← hW, set8_size]
  have e2 : ∀ p : Addr, p.block ≠ B ∨ 8 ≤ p.off → W.cell? p = w2.cell? p := fun p h => by rw [← hW, set8_cell _ _ _ _ h]
  have e3 : ∀ p : Addr, W.frozen? p = w2.frozen? p := fun p => by rw [← hW, set8_frozen]
  have e4 : Words W B 8 y.get := by rw [← hW]; exact set8_words h2.words y
  clear hW
  have c8 : W.cell? ⟨B, 8, none⟩ = some v := by rw [e2 ⟨B, 8, none⟩ (.inr (Nat.le_refl _))]; exact h2.rest
  have c9 : W.cell? ⟨B, 9, none⟩ = some (.int .u64 ((n : Nat) : Int)) := by rw [e2 ⟨B, 9, none⟩ (.inr (by show 8 ≤ 9; omega))]; exact h2.count
  have f8 : W.frozen? ⟨B, 8, none⟩ = false := by rw [e3]; exact h2.restF
  have f9 : W.frozen? ⟨B, 9, none⟩ = false := by rw [e3]; exact h2.countF
  have tab : ∀ i, i < 64 → W.cell? ⟨1, i, none⟩ = some (.int .u32 (u32 (KW i))) := fun i hi => by rw [e2 ⟨1, i, none⟩ (.inl (by show 1 ≠ B; omega))]; exact h2.tab i hi
  have hsz : B < W.heap.size := by rw [e1]; exact h2.hi
  refine ⟨c8, f8, ?_⟩
  refine ⟨h.lo, by simpa [World.setCell] using hsz, fun i hi => ?_, ?_, ?_, ?_, ?_, ?_, ?_⟩
  · rw [World.cell?_setCell_other _ _ _ _ (by intro e; injection e with e1 e2; omega)]
    exact tab i hi
  · rw [hs.1, hy]
    exact Words.far_put e4 8 (by omega) _
  · exact World.cell?_setCell_same _ _ _ c8
  · rw [World.frozen?_setCell]
    exact f8
  · rw [put_cell _ _ _ (by omega)]
    exact c9
  · rw [World.frozen?_setCell]
    exact f9
  · rw [hs.2]
    exact Buf.nil _ _ _
theorem size_cut (q : ByteArray) (k : Nat) (h : k ≤ q.size) : (q.extract 0 k).size = k := by
  rw [← bs_length, bs_extract, List.length_take, List.length_drop, bs_length]
  omega
theorem bs_split (q : ByteArray) (k : Nat) : bs q = bs (q.extract 0 k) ++ bs (q.extract k q.size) := by
  rw [bs_extract, bs_extract, List.drop_zero, Nat.sub_zero]
  have e : ((bs q).drop k).take (q.size - k) = (bs q).drop k := List.take_of_length_le (by rw [List.length_drop, bs_length]; exact Nat.le_refl _)
  rw [e, List.take_append_drop]

theorem _root_.Go.Proofs.Sha.St.grown_at {w w1 : World} {B : Nat} {v : Value} {l : List UInt8} {n : Nat} (h : St w B v l n) (hg : w.grownBy w1 v.ownBlock) : w1.heap[B]? = w.heap[B]? ∧ w1.heap[1]? = w.heap[1]? := by
  have hlo := h.lo
  have hhi := h.hi
  have hne : ∀ k, v.ownBlock = some k → B + 1 ≤ k := fun k hk => (World.ownsRow.lt h.buf k hk).1
  exact ⟨hg.block B hhi (fun e => by have := hne B e.symm; omega), hg.block 1 (by omega) (fun e => by have := hne 1 e.symm; omega)⟩
theorem _root_.Go.Proofs.Sha.St.short {w w1 : World} {B : Nat} {v v' : Value} {l p : List UInt8} {n : Nat} (h : St w B v l n) (hg : w.grownBy w1 v.ownBlock) (hp : (restOf l).length + p.length < 64) (hb : Buf w1 (B + 1) 5 v' (restOf l ++ p)) : St (w1.setCell ⟨B, 8, none⟩ v') B v' (l ++ p) n := by
  have hs := state_short KW H0 l p hp
  obtain ⟨e1, e2⟩ := h.grown_at hg
  exact h.setRest hs.1 hg.size e1 e2 (by rw [hs.2]; exact hb)

/-- What the slots of Write's great statement hold. -/
def WT (B r c kk W0 : Nat) (A : Option Addr) (q q2 : ByteArray) (m : Nat → UInt8) (X Y : Array Value) : List (List Tmp × (Value → World → Prop)) :=
  [([0, 40, 41, 42, 43, 45, 46, 49, 50, 54, 55], fun v _ => v = .pointer (some ⟨B, 0, none⟩)), ([44], fun v _ => v = .agg X), ([47, 51, 56], fun v _ => v = .pointer (some ⟨B, 8, none⟩)),
   ([48, 52, 57], fun v _ => v = .slice A r c), ([53, 58], fun v _ => v = .int .i64 (r : Nat)), ([59], fun v _ => v = .slice A r r), ([5, 60], fun v _ => v = .string q), ([6, 61], fun v _ => v = .int .i64 (kk : Nat)), ([62], fun v _ => v = .string q2),
   ([63], fun v w => ∃ g cap, v = .slice (some ⟨g, 0, none⟩) 64 cap ∧ W0 ≤ g ∧ g < w.heap.size ∧ ∀ i, i < 64 → w.cell? ⟨g, i, none⟩ = some (.int .u8 (((m i).toNat : Nat) : Int))), ([64], fun v _ => v = .agg Y)]
theorem wt_mono (B r c kk W0 : Nat) (A : Option Addr) (q q2 : ByteArray) (m : Nat → UInt8) (X Y : Array Value) : monoL (WT B r c kk W0 A q q2 m X Y) := by
  refine ⟨?_, ?_, ?_, ?_, ?_, ?_, ?_, ?_, ?_, ?_, ?_, trivial⟩
  all_goals intro v w w' h hb
  all_goals first | exact h | skip
  obtain ⟨g, cap, rfl, h1, h2, h3⟩ := h
  exact ⟨g, cap, rfl, h1, Nat.lt_of_lt_of_le h2 hb.size, fun i hi => by rw [hb.cell (p := ⟨g, i, none⟩) h2]; exact h3 i hi⟩
theorem wp_append_clip {P : Program} {w : World} {o : Oper} {a : Act} {K : Act → World → Prop} {Q : Exit → Act → World → Prop} (s x : Operand) (t u : TypeId)
    (ho : o.op = .call { callee := .builtin .append, args := #[s, x], argTypes := #[t, u] })
    {e : TypeId} (ht : P.underlying t = some (.slice e)) (hu : P.underlying u = some .string) (hi5 : (P.info? e).map (fun i => (i.zero, i.size, i.bytes)) = some (some (.int .u8 0), 1, 1))
    {base : Nat} (A : Option Addr) (c n tot : Nat) {l : List UInt8} (hn : n = l.length) (hs : a.eval s = .slice A n n) (hown : Buf w base e (.slice A n c) l) (q : ByteArray) (hx : a.eval x = .string q) (h0 : 0 < q.size)
    (htot : n + q.size = tot) (hlen : tot ≤ 140737488355328)
    (h : ∀ cap w', Below w.heap.size w w' → w.heap.size < w'.heap.size → (∀ i, i < tot → w'.cell? ⟨w.heap.size, i, none⟩ = some (.int .u8 ((((l ++ bs q).getD i 0).toNat : Nat) : Int))) → K (a.put o.dst (.slice (some ⟨w.heap.size, 0, none⟩) tot cap)) w') :
    Oper.wp P o a w K Q := by
  subst hn
  subst htot
  obtain ⟨cap, w', hrun, h1, h2, h3⟩ := run_append_clip (P := P) w base t u o.type e ht hu hi5 A c l hown q h0 hlen
  unfold Oper.wp execOp
  simp only [ho, resolve, invoke, builtin, Sem.run_bind, Sem.run_pure, Result.andThen_ok, List.map_toArray, List.map_cons, List.map_nil, hs, hx, hrun]
  exact h cap w' h1 h2 h3

def sizeOf' : Value → Nat
  | .string s => s.size
  | _ => 0

set_option maxHeartbeats 2000000 in
set_option maxRecDepth 100000 in
theorem write_some (B : Nat) (v : Value) (l : List UInt8) (ps : List ByteArray) (pb po cap : Nat) (w : World) (hS : St w B v l l.length) (hp : pb < w.heap.size) (hpB : pb ≠ B) (hpv : some pb ≠ v.ownBlock)
    (hc : ∀ j (hj : j < ps.length), w.cell? ⟨pb, po + j, none⟩ = some (.string ps[j])) (hlen : l.length + (joinAll ps).length ≤ 1099511627776) (hn : ps.length ≤ 1099511627776) :
    Calls Tryd.prog 16 #[.pointer (some ⟨B, 0, none⟩), .slice (some ⟨pb, po, none⟩) ps.length cap] w (Wrote B v (l ++ joinAll ps) w) := by
  have hn' : (ps.length : Int) ≤ 1099511627776 := by omega
  go_enter Tryd.func16, Tryd.ntmps16
  go_wp2_with fail
  go_loopw [5, 6, 11] (fun _ _ i wr => ∃ (j : Nat) (v' : Value), j ≤ ps.length ∧ i = .int .i64 j ∧ St wr B v' (l ++ joinTo ps j) (l ++ joinTo ps j).length ∧ Upd w wr B v v') (fun _ _ i _ => ps.length - (intOf i).toNat)
  case atStart => exact ⟨0, v, Nat.zero_le _, rfl, by rw [joinTo_zero, List.append_nil]; exact hS, Upd.refl _ _ _⟩
  case round =>
    clear hS
    obtain ⟨j, v1, hj, rfl, hS, hU⟩ := hrel
    by_cases hlt : j < ps.length
    · have q0 : (j : Int) < ps.length := by omega
      have c0 : wr.cell? ⟨pb, po + j, none⟩ = some (.string ps[j]) := (World.cell?_of_block (w := w) (hU.block pb hp hpB hpv)).trans (hc j hlt)
      have hjn := Lib.hid (joinTo_next ps j hlt)
      have hle : (l ++ joinTo ps j).length + ps[j].size ≤ 1099511627776 := by
        have h1 := joinTo_le ps (j + 1) ps.length (by omega)
        rw [hjn.out, joinTo_all, List.length_append, bs_length] at h1
        rw [List.length_append]
        omega
      generalize ps[j] = s at c0 hjn hle
      generalize hL : l ++ joinTo ps j = L at hS hle
      have hL' := Lib.hid hL
      clear hL
      have cn := hS.count
      have fn := hS.countF
      have b0 : (L.length : Int) ≤ 1099511627776 := by omega
      have b1 : (s.size : Int) ≤ 1099511627776 := by omega
      have b2 : (L.length : Int) + (s.size : Int) ≤ 1099511627776 := by omega
      have HH := Lib.hid (And.intro hS hU)
      clear hS hU hle
      go_wp2_with fail
      go_loopw [5, 6] (fun u5 _ wq => ∃ (q : ByteArray) (pre : List UInt8) (v2 : Value), u5 = .string q ∧ bs s = pre ++ bs q ∧ St wq B v2 (L ++ pre) (L.length + s.size) ∧ Upd w wq B v v2) (fun u5 _ _ => sizeOf' u5)
      case atStart =>
        refine ⟨s, [], v1, rfl, rfl, ?_, HH.out.2.put 9 _⟩
        have h := HH.out.1.setCount (L.length + s.size)
        rw [Int.natCast_add] at h
        rw [List.append_nil]
        exact h
      case round =>
        clear HH c0 cn fn
        obtain ⟨q, pre, v2, rfl, hpre, hS, hU⟩ := hrel
        obtain ⟨A, c, rfl⟩ := hS.len
        have hrc : (L ++ pre).length % 64 ≤ c := hS.buf.le_cap
        have hlr := restOf_length (L ++ pre)
        have hqs : pre.length + q.size = s.size := by
          have h := congrArg List.length hpre
          rw [List.length_append, bs_length, bs_length] at h
          omega
        generalize hrr : (L ++ pre).length % 64 = r at hrc hlr hS hU
        have hr64 : r < 64 := by omega
        have hRR := Lib.hid (And.intro hrr (And.intro hlr (And.intro hqs hpre)))
        clear hrr hlr
        have q0 : (0 : Int) ≤ (r : Int) := by omega
        have q1 : (r : Int) < 64 := by omega
        have q2 : (q.size : Int) ≤ 1099511627776 := by omega
        have q3 : (r : Int) ≤ (c : Int) := by omega
        have cr := hS.rest
        have fr := hS.restF
        clear hqs hpre
        by_cases hge : 64 ≤ r + q.size
        · have q4 : (64 : Int) ≤ (r : Int) + (q.size : Int) := by omega
          obtain ⟨kk, hkk⟩ : ∃ kk : Nat, kk + r = 64 := ⟨64 - r, by omega⟩
          have q5 : (kk : Int) ≤ (q.size : Int) := by omega
          have q6 : (0 : Int) ≤ (kk : Int) := by omega
          have ek : (64 : Int) - (r : Int) = (kk : Int) := by omega
          have hk0 : 0 < kk := by omega
          have hkk' := Lib.hid hkk
          clear hkk
          have hW := hS.words
          generalize hX : wordsOf KW H0 (L ++ pre) = X at hW
          have hXX := Lib.hid hX
          clear hX
          obtain ⟨x0, x1, x2, x3, x4, x5, x6, x7⟩ := X
          have x0c : wr.cell? ⟨B, 0, none⟩ = some (.int .u32 (Sha.u32 x0)) := hW.1 0 (by decide)
          have x1c : wr.cell? ⟨B, 1, none⟩ = some (.int .u32 (Sha.u32 x1)) := hW.1 1 (by decide)
          have x2c : wr.cell? ⟨B, 2, none⟩ = some (.int .u32 (Sha.u32 x2)) := hW.1 2 (by decide)
          have x3c : wr.cell? ⟨B, 3, none⟩ = some (.int .u32 (Sha.u32 x3)) := hW.1 3 (by decide)
          have x4c : wr.cell? ⟨B, 4, none⟩ = some (.int .u32 (Sha.u32 x4)) := hW.1 4 (by decide)
          have x5c : wr.cell? ⟨B, 5, none⟩ = some (.int .u32 (Sha.u32 x5)) := hW.1 5 (by decide)
          have x6c : wr.cell? ⟨B, 6, none⟩ = some (.int .u32 (Sha.u32 x6)) := hW.1 6 (by decide)
          have x7c : wr.cell? ⟨B, 7, none⟩ = some (.int .u32 (Sha.u32 x7)) := hW.1 7 (by decide)
          have x0f : wr.frozen? ⟨B, 0, none⟩ = false := hW.2 0 (by decide)
          have x1f : wr.frozen? ⟨B, 1, none⟩ = false := hW.2 1 (by decide)
          have x2f : wr.frozen? ⟨B, 2, none⟩ = false := hW.2 2 (by decide)
          have x3f : wr.frozen? ⟨B, 3, none⟩ = false := hW.2 3 (by decide)
          have x4f : wr.frozen? ⟨B, 4, none⟩ = false := hW.2 4 (by decide)
          have x5f : wr.frozen? ⟨B, 5, none⟩ = false := hW.2 5 (by decide)
          have x6f : wr.frozen? ⟨B, 6, none⟩ = false := hW.2 6 (by decide)
          have x7f : wr.frozen? ⟨B, 7, none⟩ = false := hW.2 7 (by decide)
          clear hW
          have HH := Lib.hid (And.intro hS hU)
          clear hS hU
          go_wp2_with fail
          have hBlt : B < wr.heap.size := HH.out.1.hi
          have hq1 : (q.extract 0 kk).size = kk := size_cut _ _ (by omega)
          have hq := Lib.hid hq1
          clear hq1
          have hbuf := Lib.hid HH.out.1.drew.buf
          have t0 : 0 < (q.extract 0 kk).size := by rw [hq.out]; exact hk0
          have t1 := Lib.hid (show r + (q.extract 0 kk).size = 64 by rw [hq.out]; have := hkk'.out; omega)
          have t2 := Lib.hid hRR.out.2.1.symm
          obtain ⟨m, hm⟩ : ∃ m : Nat → UInt8, ∀ i, (restOf (L ++ pre) ++ bs (q.extract 0 kk)).getD i 0 = m i := ⟨_, fun _ => rfl⟩
          have hM := Lib.hid hm
          clear hm
          generalize hy : blockOf KW m ⟨x0, x1, x2, x3, x4, x5, x6, x7⟩ = y
          have hY := Lib.hid hy
          clear hy
          obtain ⟨y0, y1, y2, y3, y4, y5, y6, y7⟩ := y
          go_wp2_with fail
          refine region_inv_tail 25 (slotT (WT B r c kk wr.heap.size A q (q.extract 0 kk) m #[.int .u32 (Sha.u32 x0), .int .u32 (Sha.u32 x1), .int .u32 (Sha.u32 x2), .int .u32 (Sha.u32 x3), .int .u32 (Sha.u32 x4), .int .u32 (Sha.u32 x5), .int .u32 (Sha.u32 x6), .int .u32 (Sha.u32 x7)] #[.int .u32 (Sha.u32 y0), .int .u32 (Sha.u32 y1), .int .u32 (Sha.u32 y2), .int .u32 (Sha.u32 y3), .int .u32 (Sha.u32 y4), .int .u32 (Sha.u32 y5), .int .u32 (Sha.u32 y6), .int .u32 (Sha.u32 y7)])) [0, 5, 6] (by kernel_rfl) (by kernel_rfl) (by kernel_rfl) (by kernel_rfl) ?_ (slotT_mono (wt_mono _ _ _ _ _ _ _ _ _ _ _)) ?_ ?_
          · exact ⟨⟨_, rfl, rfl⟩, ⟨_, rfl, rfl⟩, ⟨_, rfl, rfl⟩, trivial⟩
          · refine ⟨?_, ?_, ?_, ?_, ?_, ?_, ?_, ?_, ?_, ?_, ?_, ?_, ?_, ?_, ?_, ?_, ?_, ?_, ?_, ?_, ?_, ?_, ?_, ?s23, ?s24, trivial⟩
            case s23 =>
              refine step_open rfl ?_
              intro a w hb hs hl
              obtain ⟨⟨_, e1, rfl⟩, ⟨_, e2, rfl⟩, _⟩ := hl
              refine wp_append_clip (.tmp 59) (.tmp 62) 51 9 rfl Tryd.underlying51 Tryd.underlying9 info5 (base := B + 1) A c r 64 (l := restOf (L ++ pre)) t2.out ?e1 (hbuf.out.below hb) (q.extract 0 kk) ?e2 t0 t1.out (by decide) ?_
              case e1 => simp [Act.eval, e1]
              case e2 => simp [Act.eval, e2]
              intro cap1 w1 hb1 hs1 hc1
              exact ⟨_, rfl, hb1, fun d hd => by cases hd; exact ⟨_, cap1, rfl, hb.size, hs1, fun i hi => (hc1 i hi).trans (by rw [hM.out i])⟩⟩
            case s24 =>
              refine step_open rfl ?_
              intro a w hb hs hl
              obtain ⟨⟨_, e1, rfl⟩, ⟨_, e2, g, cap1, rfl, hg1, hg2, hg3⟩, _⟩ := hl
              have hSw := Lib.hid (HH.out.1.drew.below hb)
              unfold Oper.wp
              go_simp
              refine (block_ex ⟨x0, x1, x2, x3, x4, x5, x6, x7⟩ g 0 cap1 m w (Nat.lt_trans hSw.out.lo hSw.out.hi) hSw.out.tab hg2 (fun i hi => (congrArg (fun z => w.cell? ⟨g, z, none⟩) (Nat.zero_add i)).trans (hg3 i hi))).mono ?_
              rintro e w2 ⟨z0, z1, z2, z3, z4, z5, z6, z7, rfl, hz, hb2⟩
              have hzy := hY.out.symm.trans hz.out
              cases hzy
              exact ⟨_, rfl, hb2.out, rfl⟩
            all_goals refine step_open rfl ?_
            all_goals (intro a w hb hs hl; clear hs; repeat (first | (obtain ⟨⟨_, e, rfl⟩, hl⟩ := hl) | (obtain ⟨⟨_, e, h⟩, hl⟩ := hl)))
            all_goals (have k0 : w.cell? ⟨B, 0, none⟩ = some (.int .u32 (Sha.u32 x0)) := (hb.cell (p := ⟨B, 0, none⟩) hBlt).trans x0c; have k1 : w.cell? ⟨B, 1, none⟩ = some (.int .u32 (Sha.u32 x1)) := (hb.cell (p := ⟨B, 1, none⟩) hBlt).trans x1c; have k2 : w.cell? ⟨B, 2, none⟩ = some (.int .u32 (Sha.u32 x2)) := (hb.cell (p := ⟨B, 2, none⟩) hBlt).trans x2c; have k3 : w.cell? ⟨B, 3, none⟩ = some (.int .u32 (Sha.u32 x3)) := (hb.cell (p := ⟨B, 3, none⟩) hBlt).trans x3c; have k4 : w.cell? ⟨B, 4, none⟩ = some (.int .u32 (Sha.u32 x4)) := (hb.cell (p := ⟨B, 4, none⟩) hBlt).trans x4c; have k5 : w.cell? ⟨B, 5, none⟩ = some (.int .u32 (Sha.u32 x5)) := (hb.cell (p := ⟨B, 5, none⟩) hBlt).trans x5c; have k6 : w.cell? ⟨B, 6, none⟩ = some (.int .u32 (Sha.u32 x6)) := (hb.cell (p := ⟨B, 6, none⟩) hBlt).trans x6c; have k7 : w.cell? ⟨B, 7, none⟩ = some (.int .u32 (Sha.u32 x7)) := (hb.cell (p := ⟨B, 7, none⟩) hBlt).trans x7c; have k8 : w.cell? ⟨B, 8, none⟩ = some (.slice A r c) := (hb.cell (p := ⟨B, 8, none⟩) hBlt).trans cr)
            all_goals (try clear hl)
            all_goals (unfold Oper.wp; go_simp)
            all_goals exact ⟨_, rfl, Below.refl _ _, rfl⟩
          · intro a w2 hb hsm hd
            obtain ⟨_, e40, rfl⟩ := hd 40 (by decide)
            obtain ⟨_, e41, rfl⟩ := hd 41 (by decide)
            obtain ⟨_, e42, rfl⟩ := hd 42 (by decide)
            obtain ⟨_, e43, rfl⟩ := hd 43 (by decide)
            obtain ⟨_, e44, rfl⟩ := hd 44 (by decide)
            obtain ⟨_, e45, rfl⟩ := hd 45 (by decide)
            obtain ⟨_, e46, rfl⟩ := hd 46 (by decide)
            obtain ⟨_, e47, rfl⟩ := hd 47 (by decide)
            obtain ⟨_, e48, rfl⟩ := hd 48 (by decide)
            obtain ⟨_, e49, rfl⟩ := hd 49 (by decide)
            obtain ⟨_, e50, rfl⟩ := hd 50 (by decide)
            obtain ⟨_, e51, rfl⟩ := hd 51 (by decide)
            obtain ⟨_, e52, rfl⟩ := hd 52 (by decide)
            obtain ⟨_, e53, rfl⟩ := hd 53 (by decide)
            obtain ⟨_, e54, rfl⟩ := hd 54 (by decide)
            obtain ⟨_, e55, rfl⟩ := hd 55 (by decide)
            obtain ⟨_, e56, rfl⟩ := hd 56 (by decide)
            obtain ⟨_, e57, rfl⟩ := hd 57 (by decide)
            obtain ⟨_, e58, rfl⟩ := hd 58 (by decide)
            obtain ⟨_, e59, rfl⟩ := hd 59 (by decide)
            obtain ⟨_, e60, rfl⟩ := hd 60 (by decide)
            obtain ⟨_, e61, rfl⟩ := hd 61 (by decide)
            obtain ⟨_, e62, rfl⟩ := hd 62 (by decide)
            obtain ⟨_, e63, g, cap1, rfl, hg1, hg2, hg3⟩ := hd 63 (by decide)
            obtain ⟨_, e64, rfl⟩ := hd 64 (by decide)
            obtain ⟨u65, e65⟩ := hsm.some_at 65 (Nat.le_of_ble_eq_true (by kernel_rfl))
            obtain ⟨u66, e66⟩ := hsm.some_at 66 (Nat.le_of_ble_eq_true (by kernel_rfl))
            have hA := same_put hsm [(40, .pointer (some ⟨B, 0, none⟩)), (41, .pointer (some ⟨B, 0, none⟩)), (42, .pointer (some ⟨B, 0, none⟩)), (43, .pointer (some ⟨B, 0, none⟩)), (44, .agg #[.int .u32 (Sha.u32 x0), .int .u32 (Sha.u32 x1), .int .u32 (Sha.u32 x2), .int .u32 (Sha.u32 x3), .int .u32 (Sha.u32 x4), .int .u32 (Sha.u32 x5), .int .u32 (Sha.u32 x6), .int .u32 (Sha.u32 x7)]), (45, .pointer (some ⟨B, 0, none⟩)), (46, .pointer (some ⟨B, 0, none⟩)), (47, .pointer (some ⟨B, 8, none⟩)), (48, .slice A r c), (49, .pointer (some ⟨B, 0, none⟩)), (50, .pointer (some ⟨B, 0, none⟩)), (51, .pointer (some ⟨B, 8, none⟩)), (52, .slice A r c), (53, .int .i64 (r : Nat)), (54, .pointer (some ⟨B, 0, none⟩)), (55, .pointer (some ⟨B, 0, none⟩)), (56, .pointer (some ⟨B, 8, none⟩)), (57, .slice A r c), (58, .int .i64 (r : Nat)), (59, .slice A r r), (60, .string q), (61, .int .i64 (kk : Nat)), (62, .string (q.extract 0 kk)), (63, .slice (some ⟨g, 0, none⟩) 64 cap1), (64, .agg #[.int .u32 (Sha.u32 y0), .int .u32 (Sha.u32 y1), .int .u32 (Sha.u32 y2), .int .u32 (Sha.u32 y3), .int .u32 (Sha.u32 y4), .int .u32 (Sha.u32 y5), .int .u32 (Sha.u32 y6), .int .u32 (Sha.u32 y7)]), (65, u65), (66, u66)] (atL_of ⟨e40, e41, e42, e43, e44, e45, e46, e47, e48, e49, e50, e51, e52, e53, e54, e55, e56, e57, e58, e59, e60, e61, e62, e63, e64, e65, e66, trivial⟩) (by kernel_rfl)
            clear hsm hd e40 e41 e42 e43 e44 e45 e46 e47 e48 e49 e50 e51 e52 e53 e54 e55 e56 e57 e58 e59 e60 e61 e62 e63 e64 e65 e66 hg1 hg2 hg3
            subst hA
            have hBW := Lib.hid hb
            have hS2 := HH.out.1.drew.below hb
            have hWd := hS2.words
            rw [hXX.out] at hWd
            have z0c : w2.cell? ⟨B, 0, none⟩ = some (.int .u32 (Sha.u32 x0)) := hWd.1 0 (by decide)
            have z0f : w2.frozen? ⟨B, 0, none⟩ = false := hWd.2 0 (by decide)
            have z1c : w2.cell? ⟨B, 1, none⟩ = some (.int .u32 (Sha.u32 x1)) := hWd.1 1 (by decide)
            have z1f : w2.frozen? ⟨B, 1, none⟩ = false := hWd.2 1 (by decide)
            have z2c : w2.cell? ⟨B, 2, none⟩ = some (.int .u32 (Sha.u32 x2)) := hWd.1 2 (by decide)
            have z2f : w2.frozen? ⟨B, 2, none⟩ = false := hWd.2 2 (by decide)
            have z3c : w2.cell? ⟨B, 3, none⟩ = some (.int .u32 (Sha.u32 x3)) := hWd.1 3 (by decide)
            have z3f : w2.frozen? ⟨B, 3, none⟩ = false := hWd.2 3 (by decide)
            have z4c : w2.cell? ⟨B, 4, none⟩ = some (.int .u32 (Sha.u32 x4)) := hWd.1 4 (by decide)
            have z4f : w2.frozen? ⟨B, 4, none⟩ = false := hWd.2 4 (by decide)
            have z5c : w2.cell? ⟨B, 5, none⟩ = some (.int .u32 (Sha.u32 x5)) := hWd.1 5 (by decide)
            have z5f : w2.frozen? ⟨B, 5, none⟩ = false := hWd.2 5 (by decide)
            have z6c : w2.cell? ⟨B, 6, none⟩ = some (.int .u32 (Sha.u32 x6)) := hWd.1 6 (by decide)
            have z6f : w2.frozen? ⟨B, 6, none⟩ = false := hWd.2 6 (by decide)
            have z7c : w2.cell? ⟨B, 7, none⟩ = some (.int .u32 (Sha.u32 x7)) := hWd.1 7 (by decide)
            have z7f : w2.frozen? ⟨B, 7, none⟩ = false := hWd.2 7 (by decide)
            clear hWd hS2 x0c x1c x2c x3c x4c x5c x6c x7c x0f x1f x2f x3f x4f x5f x6f x7f hb
            have hp : (restOf (L ++ pre)).length + (bs (q.extract 0 kk)).length = 64 := by
              rw [bs_length, size_cut _ _ (by omega), hRR.out.2.1]
              have := hkk'.out
              omega
            have hy2 : blockOf KW (fun i => (restOf (L ++ pre) ++ bs (q.extract 0 kk)).getD i 0) (wordsOf KW H0 (L ++ pre)) = ⟨y0, y1, y2, y3, y4, y5, y6, y7⟩ := by
              rw [hXX.out, ← hY.out]
              congr 1
              exact funext hM.out
            have hF := Lib.hid (HH.out.1.drew.full hp hBW.out hy2 rfl)
            clear hp hy2
            simp only [List.foldl, List.drop_succ_cons, List.drop_zero]
            go_wp2_with fail
            generalize hW3 : World.setCell _ ⟨B, 7, none⟩ (.int .u32 (Sha.u32 y7)) = W
            have hW4 : set8 w2 B ⟨y0, y1, y2, y3, y4, y5, y6, y7⟩ = W := hW3
            clear hW3
            rw [hW4] at hF
            replace hF := hF.out
            replace hW4 := Lib.hid hW4
            obtain ⟨cW, fW, hF⟩ := hF
            go_region
            go_wp2_with fail
            refine ⟨?rel, ?measure⟩
            case rel =>
              refine ⟨q.extract kk q.size, pre ++ bs (q.extract 0 kk), .slice none 0 0, rfl, ?_, ?_, ?_⟩
              · rw [hRR.out.2.2.2, List.append_assoc, ← bs_split]
              · rw [← List.append_assoc]
                exact hF.out.drew
              · have h1 : Upd w w2 B v (.slice A r c) := HH.out.2.drew.below hBW.out
                have h2 := set8_upd h1 ⟨y0, y1, y2, y3, y4, y5, y6, y7⟩
                rw [hW4.out] at h2
                exact (h2.put 8 _).nil.drew
            case measure =>
              show (q.extract kk q.size).size < q.size
              have e := congrArg List.length (bs_split q kk)
              rw [List.length_append, bs_length, bs_length, bs_length, size_cut _ _ (by omega)] at e
              omega
        · have q4 : (r : Int) + (q.size : Int) < 64 := by omega
          have HH := Lib.hid (And.intro hS hU)
          clear hS hU
          go_wp2_with (at_builtin; refine wpList_append_str rfl (.tmp 77) (.tmp 78) 51 9 rfl Tryd.underlying51 Tryd.underlying9 info5 (base := B + 1) (l := restOf (L ++ pre)) rfl ?hb q rfl ?hl ?hs ?_)
          case hb => exact HH.out.1.buf
          case hl => rw [hRR.out.2.1]; omega
          case hs => exact HH.out.1.hi
          intro v3 w1 hb1 hg1 hr1
          have hx : ∃ A3 c3, v3 = .slice A3 ((restOf (L ++ pre)).length + (bs q).length) c3 := by rw [← List.length_append]; exact hb1.len
          obtain ⟨A3, c3, hv3⟩ := hx
          have hgr := HH.out.1.grown_at hg1
          have f81 : w1.frozen? ⟨B, 8, none⟩ = false := (other_frozen hgr.1 8).trans HH.out.1.restF
          have c81 : w1.cell? ⟨B, 8, none⟩ = some (.slice A r c) := (other_cell hgr.1 8).trans HH.out.1.rest
          have hK1 := Lib.hid (And.intro hb1 (And.intro hg1 hr1))
          clear hb1 hg1 hr1 hgr
          rw [hv3] at hK1 ⊢
          clear hv3
          go_wp2_with fail
          refine ⟨?rel2, ?measure2⟩
          case rel2 =>
            have e : l ++ joinTo ps (j + 1) = (L ++ pre) ++ bs q := by rw [hjn.out, ← List.append_assoc, hL'.out, List.append_assoc, ← hRR.out.2.2.2]
            have e2 : (l ++ joinTo ps (j + 1)).length = L.length + s.size := by rw [hjn.out, ← List.append_assoc, hL'.out, List.length_append, bs_length]
            refine ⟨j + 1, .slice A3 ((restOf (L ++ pre)).length + (bs q).length) c3, by omega, by go_num, ?_, ?_⟩
            · rw [e2, e]
              exact HH.out.1.short hK1.out.2.1 (by rw [hRR.out.2.1, bs_length]; omega) hK1.out.1
            · exact (HH.out.2.grown hK1.out.2.1 hK1.out.2.2).put 8 _
          case measure2 => simp [intOf]; omega
    · obtain rfl : j = ps.length := by omega
      go_wp2_with fail
      go_end0
      rw [joinTo_all] at hS
      exact ⟨rfl, v1, hS, hU⟩

theorem write_zero (B : Nat) (pa : Option Addr) (cap : Nat) (w : World) :
    Calls Tryd.prog 16 #[.pointer (some ⟨B, 0, none⟩), .slice pa 0 cap] w fun e w' => e = .returned (.tuple #[]) ∧ w = w' := by
  go_enter Tryd.func16, Tryd.ntmps16
  go_wp2_with fail
  go_loopw [5, 6, 11] (fun _ _ i wr => i = .int .i64 0 ∧ wr = w) (fun _ _ _ _ => 0)
  case atStart => exact ⟨rfl, rfl⟩
  case round =>
    obtain ⟨rfl, rfl⟩ := hrel
    go_wp2_with fail
    go_end0
    exact ⟨rfl, rfl⟩
theorem write_nil (v : Value) (w : World) :
    Calls Tryd.prog 16 #[.pointer none, v] w fun e w' => e = .returned (.tuple #[]) ∧ w = w' := by
  go_enter Tryd.func16, Tryd.ntmps16
  go_wp2_with fail
  exact bodyPost_ret (v := .tuple #[]) (by simp [results, Tryd.results16, go_sem]) rfl ⟨rfl, rfl⟩
theorem len_nil (w : World) : Calls Tryd.prog 18 #[.pointer none] w fun e w' => e = .returned (.int .u64 0) ∧ w = w' := by
  go_enter Tryd.func18, Tryd.ntmps18
  go_wp2_with fail
  go_ret
  exact ⟨rfl, rfl⟩
theorem len_any (B n : Nat) (w : World) (hc : w.cell? ⟨B, 9, none⟩ = some (.int .u64 ((n : Nat) : Int))) : Calls Tryd.prog 18 #[.pointer (some ⟨B, 0, none⟩)] w fun e w' => e = .returned (.int .u64 ((n : Nat) : Int)) ∧ w = w' := by
  go_enter Tryd.func18, Tryd.ntmps18
  go_wp2_with fail
  go_ret
  exact ⟨rfl, rfl⟩
theorem sum_nil (w : World) : Calls Tryd.prog 17 #[.pointer none] w fun e w' => e = .returned (.string ⟨#[]⟩) ∧ w = w' := by
  go_enter Tryd.func17, Tryd.ntmps17
  go_wp2_with fail
  go_ret
  exact ⟨rfl, rfl⟩

/-- The program's variables hold the numbers. -/
structure Laid (w : World) : Prop where
  size : 1 < w.heap.size
  tab : ∀ i, i < 64 → w.cell? ⟨1, i, none⟩ = some (.int .u32 (u32 (KW i)))
  start : ∀ i, i < 8 → w.cell? ⟨0, i, none⟩ = some (.int .u32 (u32 (H0.get i)))
theorem Laid.below {w w' : World} {B : Nat} (h : Laid w) (hb : Below B w w') (hB : 1 < B) : Laid w' :=
  ⟨Nat.lt_of_lt_of_le h.size hb.size, fun i hi => by rw [hb.cell (p := ⟨1, i, none⟩) hB]; exact h.tab i hi, fun i hi => by rw [hb.cell (p := ⟨0, i, none⟩) (by show 0 < B; omega)]; exact h.start i hi⟩

theorem new_any (w : World) (hL : Laid w) :
    Calls Tryd.prog 15 #[] w fun e w' => e = .returned (.pointer (some ⟨w.heap.size, 0, none⟩)) ∧ Hid (St w' w.heap.size (.slice none 0 0) [] 0) ∧ Hid (Below w.heap.size w w') := by
  have o0 : w.cell? ⟨0, 0, none⟩ = some (.int .u32 (u32 H0.a)) := hL.start 0 (by decide)
  have o1 : w.cell? ⟨0, 1, none⟩ = some (.int .u32 (u32 H0.b)) := hL.start 1 (by decide)
  have o2 : w.cell? ⟨0, 2, none⟩ = some (.int .u32 (u32 H0.c)) := hL.start 2 (by decide)
  have o3 : w.cell? ⟨0, 3, none⟩ = some (.int .u32 (u32 H0.d)) := hL.start 3 (by decide)
  have o4 : w.cell? ⟨0, 4, none⟩ = some (.int .u32 (u32 H0.e)) := hL.start 4 (by decide)
  have o5 : w.cell? ⟨0, 5, none⟩ = some (.int .u32 (u32 H0.f)) := hL.start 5 (by decide)
  have o6 : w.cell? ⟨0, 6, none⟩ = some (.int .u32 (u32 H0.g)) := hL.start 6 (by decide)
  have o7 : w.cell? ⟨0, 7, none⟩ = some (.int .u32 (u32 H0.h)) := hL.start 7 (by decide)
  have HL := Lib.hid hL
  clear hL
  generalize hH : H0 = x at o0 o1 o2 o3 o4 o5 o6 o7
  have HX := Lib.hid hH
  clear hH
  obtain ⟨x0, x1, x2, x3, x4, x5, x6, x7⟩ := x
  go_enter Tryd.func15, Tryd.ntmps15
  go_wp2_with fail
  go_ret
  refine ⟨rfl, ?_, (Below.refl _ _).alloc (Nat.le_refl _) _⟩
  have hw : ∀ i, w.heap.size = i → (w.alloc (.cells #[.int .u32 (u32 x0), .int .u32 (u32 x1), .int .u32 (u32 x2), .int .u32 (u32 x3), .int .u32 (u32 x4), .int .u32 (u32 x5), .int .u32 (u32 x6), .int .u32 (u32 x7), .slice none 0 0, .int .u64 0] 65)).heap.size = i + 1 := fun i hi => by subst hi; simp
  have HB := (Below.refl w.heap.size w).alloc (Nat.le_refl _) (.cells #[.int .u32 (u32 x0), .int .u32 (u32 x1), .int .u32 (u32 x2), .int .u32 (u32 x3), .int .u32 (u32 x4), .int .u32 (u32 x5), .int .u32 (u32 x6), .int .u32 (u32 x7), .slice none 0 0, .int .u64 0] 65)
  have hl := HL.out.below HB HL.out.size
  refine ⟨HL.out.size, by rw [hw _ rfl]; omega, hl.tab, ?_, by rw [World.cell?_alloc_mark]; rfl, World.frozen?_alloc_at _ _ _ _ rfl, by rw [World.cell?_alloc_mark]; rfl, World.frozen?_alloc_at _ _ _ _ rfl, Buf.nil _ _ _⟩
  rw [wordsOf_nil, HX.out]
  refine ⟨fun i hi => ?_, fun i hi => World.frozen?_alloc_at _ _ _ _ rfl⟩
  rw [World.cell?_alloc_mark]
  match i, hi with
  | 0, _ => rfl
  | 1, _ => rfl
  | 2, _ => rfl
  | 3, _ => rfl
  | 4, _ => rfl
  | 5, _ => rfl
  | 6, _ => rfl
  | 7, _ => rfl
end Go.Proofs.YtnmooegegknmoaaDoor
