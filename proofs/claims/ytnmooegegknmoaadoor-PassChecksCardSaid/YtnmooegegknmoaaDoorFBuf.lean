/-
  Bytes in a row that the call made, whatever mark the row bears ('[]byte(s)', and what is appended to it). Over any program. And an append of numbers that tells where the new row lies.
-/
import Derived.Test.YtnmooegegknmoaaDoorBuf
import Derived.Test.YtnmooegegknmoaaDoorNums
import Derived.Deep.AppendSrc
import Derived.Maps.AppendAt
namespace Go.Proofs.FBuf
open Go.RowKit Go.Proofs.Buf

/-- The value v is a row of bytes that reads as l, may be written up to its capacity, and lies from block 'base' on. -/
def FBuf (w : World) (base : Nat) (v : Value) (l : List UInt8) : Prop :=
  ∃ g cap, v = .slice (some ⟨g, 0, none⟩) l.length cap ∧ base ≤ g ∧ g < w.heap.size ∧ l.length ≤ cap ∧ (∀ i, i < l.length → w.cell? ⟨g, i, none⟩ = some (.int .u8 (((l.getD i 0).toNat : Nat) : Int))) ∧
    (∀ i, i < cap → (w.cell? ⟨g, i, none⟩).isSome = true ∧ w.frozen? ⟨g, i, none⟩ = false)
section
variable {w w' : World} {base : Nat} {v : Value} {l : List UInt8}
theorem FBuf.block (h : FBuf w base v l) : ∃ g, v.ownBlock = some g ∧ base ≤ g ∧ g < w.heap.size := by
  obtain ⟨g, cap, rfl, h1, h2, _⟩ := h
  exact ⟨g, rfl, h1, h2⟩
theorem FBuf.len (h : FBuf w base v l) : ∃ a cap, v = .slice a l.length cap := by
  obtain ⟨g, cap, rfl, _⟩ := h
  exact ⟨_, cap, rfl⟩
theorem FBuf.same (h : FBuf w base v l) (hs : w.heap.size ≤ w'.heap.size) (hb : ∀ g, v.ownBlock = some g → w'.heap[g]? = w.heap[g]?) : FBuf w' base v l := by
  obtain ⟨g, cap, rfl, h1, h2, h3, h4, h5⟩ := h
  have e := hb g rfl
  exact ⟨g, cap, rfl, h1, Nat.lt_of_lt_of_le h2 hs, h3, fun i hi => (World.cell?_of_block (w := w) (a := ⟨g, i, none⟩) e).trans (h4 i hi), fun i hi => by
    rw [World.cell?_of_block (w := w) (a := ⟨g, i, none⟩) e, World.frozen?_of_block (w := w) (a := ⟨g, i, none⟩) e]
    exact h5 i hi⟩
theorem FBuf.below (h : FBuf w base v l) (hb : Below w.heap.size w w') : FBuf w' base v l := by
  obtain ⟨g, hg, _, hlt⟩ := h.block
  exact h.same hb.size fun k hk => hb.block k (by rw [hg] at hk; injection hk with hk; omega)
theorem FBuf.alloc (h : FBuf w base v l) (o : Obj) : FBuf (w.alloc o) base v l := h.below ((Below.refl _ _).alloc (Nat.le_refl _) o)

/-- '[]byte(s)'. -/
theorem fbuf_new (w : World) (s : ByteArray) (cap : Nat) (hc : s.size ≤ cap) (T : TypeId) (hb : base ≤ w.heap.size) :
    FBuf (w.alloc (.cells (bytesRow s cap) T ((bytesRow s cap).size, (bytesRow s cap).size + 1))) base (.slice (some ⟨w.heap.size, 0, none⟩) s.size cap) s.data.toList := by
  have hl : s.data.toList.length = s.size := Array.length_toList
  have hsz : (bytesRow s cap).size = cap := by
    unfold bytesRow
    rw [Array.size_append, Array.size_map, Array.size_replicate]
    have : s.data.size = s.size := rfl
    omega
  refine ⟨w.heap.size, cap, by rw [hl], hb, by simp, by omega, fun i hi => ?_, fun i hi => ⟨?_, ?_⟩⟩
  · rw [World.cell?_alloc_mark, bytesRow_at s cap i (by simpa using hi), List.getD_eq_getElem?_getD, List.getElem?_eq_getElem hi]
    simp
  · rw [World.cell?_alloc_mark]
    simp [hsz, hi]
  · rw [World.frozen?_alloc_mark]
    simp [hsz]
    omega
end
section
variable {P : Program}
/-- append of one byte. -/
theorem run_append_one (w : World) (base : Nat) (t ty e : TypeId) (ht : P.underlying t = some (.slice e)) (hi5 : (P.info? e).map (fun i => (i.zero, i.size, i.bytes)) = some (some (.int .u8 0), 1, 1))
    (v : Value) (l : List UInt8) (hown : FBuf w base v l) (ad : Addr) (c : Nat) (x : UInt8) (hx : At w ad [x]) (hlen : l.length + 1 ≤ 140737488355328) (hbase : base ≤ w.heap.size) :
    ∃ v' w', (Builtin.append_ #[t, t] ty #[v, .slice (some ad) 1 c]).run P w = .ok v' w' ∧ FBuf w' base v' (l ++ [x]) ∧ w.grownBy w' v.ownBlock := by
  obtain ⟨i, hi, hz, hsz, hby⟩ := info_parts hi5
  obtain ⟨g, cap, rfl, h1, h2, h3, h4, h5⟩ := hown
  have hsrc : Src P i.size t (.slice (some ad) 1 c) 1 (cellsOf [x]) w := Src.ofSlice w ht ad 1 c (cellsOf [x]) (by rw [cellsOf_length, hsz]; rfl) hx (cellsOf_oneCell _)
  by_cases hroom : l.length + 1 ≤ cap
  · have hr := run_append_room_src (P := P) w t t ty e i ht hi g 0 l.length cap (.slice (some ad) 1 c) 1 (cellsOf [x]) hsrc hroom
      (fun j hj => by
        have : j = 0 := by rw [cellsOf_length] at hj; simpa using hj
        subst this
        rw [hsz]
        simpa using (h5 l.length (by omega)).1)
      (fun j hj => by
        have : j = 0 := by rw [cellsOf_length] at hj; simpa using hj
        subst this
        rw [hsz]
        simpa using (h5 l.length (by omega)).2)
    have ew : w.setCells g (0 + l.length * i.size) (cellsOf [x]) = w.setCell ⟨g, l.length, none⟩ (byteV x) := by
      rw [hsz, Nat.mul_one, Nat.zero_add]
      rfl
    rw [ew] at hr
    refine ⟨_, _, hr, ⟨g, cap, by rw [List.length_append]; rfl, h1, by simpa [World.setCell] using h2, by rw [List.length_append]; exact hroom, fun j hj => ?_, fun j hj => ⟨?_, ?_⟩⟩, ⟨rfl, rfl, rfl, by simp [World.setCell], fun k _ hk => Below.heap_setCell _ _ _ _ (fun e => hk (by rw [e]; rfl))⟩⟩
    · rw [List.length_append, List.length_singleton] at hj
      by_cases e : j = l.length
      · subst e
        obtain ⟨u, hu⟩ := Option.isSome_iff_exists.1 (h5 l.length (by omega)).1
        rw [World.cell?_setCell_same _ _ _ hu]
        simp [byteV]
      · rw [World.cell?_setCell_other _ _ _ _ (by intro e'; injection e' with _ e2; omega), h4 j (by omega), List.getD_eq_getElem?_getD, List.getD_eq_getElem?_getD, List.getElem?_append_left (by omega)]
    · by_cases e : j = l.length
      · subst e
        obtain ⟨u, hu⟩ := Option.isSome_iff_exists.1 (h5 l.length (by omega)).1
        rw [World.cell?_setCell_same _ _ _ hu]
        rfl
      · rw [World.cell?_setCell_other _ _ _ _ (by intro e'; injection e' with _ e2; omega)]
        exact (h5 j hj).1
    · rw [World.frozen?_setCell]
      exact (h5 j hj).2
  · have holds : ∀ j u, (cellsOf l)[j]? = some u → w.drew.cell? ((⟨g, 0, none⟩ : Addr).add j) = some u := by
      intro j u hu
      have ha : (⟨g, 0, none⟩ : Addr).add j = ⟨g, j, none⟩ := by unfold Addr.add; split <;> simp_all
      rw [ha]
      rw [cellsOf, List.getElem?_map, Option.map_eq_some_iff] at hu
      obtain ⟨b, hb, rfl⟩ := hu
      have hj : j < l.length := (List.getElem?_eq_some_iff.1 hb).1
      have := h4 j hj
      rw [List.getD_eq_getElem?_getD, hb] at this
      exact this
    have hf := run_firstCells_some (P := P) w.drew i.size l.length ⟨g, 0, none⟩ l.length cap (cellsOf l) (by rw [cellsOf_length, hsz, Nat.mul_one]) holds
    have hr := run_append_grow_src (P := P) w t t ty e i (.int .u8 0) ht hi hz (some ⟨g, 0, none⟩) l.length cap (cellsOf l) hf (.slice (some ad) 1 c) 1 (cellsOf [x]) hsrc (by omega) (by omega) (by rw [hby]; exact growslice_fits (by omega) (by omega))
    have hge := grownCap_ge w (l.length + 1) cap e
    have hcat : cellsOf l ++ cellsOf [x] = cellsOf (l ++ [x]) := (cellsOf_append l [x]).symm
    rw [hcat] at hr
    have hz1 : (Value.int IntKind.u8 0).cells.size = 1 := rfl
    generalize hcap : grownCap w (l.length + 1) cap e = cap' at hr hge
    refine ⟨_, _, hr, ⟨w.heap.size, cap', by rw [List.length_append]; rfl, hbase, by simp, by rw [List.length_append]; exact hge, fun j hj => ?_, fun j hj => ⟨?_, ?_⟩⟩, ⟨rfl, rfl, rfl, by simp, fun k hk _ => Below.heap_alloc w.drew _ k hk⟩⟩
    · rw [show (⟨w.heap.size, j, none⟩ : Addr) = ⟨w.drew.heap.size, j, none⟩ from rfl, World.cell?_alloc_mark, Array.getElem?_append_left (by simpa [cellsOf_length] using hj)]
      rw [List.getElem?_toArray, cellsOf, List.getElem?_map, List.getD_eq_getElem?_getD, List.getElem?_eq_getElem hj]
      rfl
    · rw [show (⟨w.heap.size, j, none⟩ : Addr) = ⟨w.drew.heap.size, j, none⟩ from rfl, World.cell?_alloc_mark]
      have hs : j < ((cellsOf (l ++ [x])).toArray ++ Builtin.zeroCells (Value.int IntKind.u8 0).cells (cap' - (l.length + 1))).size := by
        simp only [Array.size_append, List.size_toArray, cellsOf_length, List.length_append, List.length_singleton, size_zeroCells, hz1]
        omega
      rw [Array.getElem?_eq_getElem hs]
      rfl
    · exact World.frozen?_alloc_at _ _ _ _ rfl
theorem wpList_append_one {w : World} {ops : Array Oper} {rest : List Oper} {o : Oper} {a : Act} {Q : Exit → Act → World → Prop} (hgd : o.guard = none) (s x : Operand) (t : TypeId)
    (ho : o.op = .call { callee := .builtin .append, args := #[s, x], argTypes := #[t, t] })
    {e : TypeId} (ht : P.underlying t = some (.slice e)) (hi5 : (P.info? e).map (fun i => (i.zero, i.size, i.bytes)) = some (some (.int .u8 0), 1, 1))
    {base : Nat} {v : Value} {l : List UInt8} (hs : a.eval s = v) (hown : FBuf w base v l) (ad : Addr) (c : Nat) (y : UInt8) (hx : a.eval x = .slice (some ad) 1 c) (hy : At w ad [y])
    (hlen : l.length + 1 ≤ 140737488355328) (hbase : base ≤ w.heap.size)
    (h : ∀ v' w', FBuf w' base v' (l ++ [y]) → w.grownBy w' v.ownBlock → wpList P ops Q rest (a.put o.dst v') w') : wpList P ops Q (o :: rest) a w := by
  obtain ⟨v', w', hrun, h1, h2⟩ := run_append_one (P := P) w base t o.type e ht hi5 v l hown ad c y hy hlen hbase
  refine wpList_plain hgd fun K hK => ?_
  unfold Oper.wp execOp
  simp only [ho, resolve, invoke, builtin, Sem.run_bind, Sem.run_pure, Result.andThen_ok, List.map_toArray, List.map_cons, List.map_nil, hs, hx, hrun]
  exact hK _ _ (h v' w' h1 h2)
theorem grown_below {w0 w1 w2 : World} {B : Nat} {v : Value} {l : List UInt8} (hb : Below B w0 w1) (hB : B ≤ w1.heap.size) (hv : FBuf w1 B v l) (hg : w1.grownBy w2 v.ownBlock) : Below B w0 w2 :=
  hb.grown hg hB (fun g hk => by obtain ⟨g', e, h1, _⟩ := hv.block; rw [e] at hk; injection hk with hk; omega)
end
end Go.Proofs.FBuf
namespace Go.Proofs.Nums
open Go.RowKit
theorem wpList_append_at {P : Program} {w : World} {ops : Array Oper} {rest : List Oper} {o : Oper} {a : Act} {Q : Exit → Act → World → Prop} (hgd : o.guard = none) (s x : Operand) (t : TypeId)
    (ho : o.op = .call { callee := .builtin .append, args := #[s, x], argTypes := #[t, t] })
    {e : TypeId} (ht : P.underlying t = some (.slice e)) (k : IntKind) (by_ : Nat) (hby : by_ ≤ 8) (hi5 : (P.info? e).map (fun i => (i.zero, i.size, i.bytes)) = some (some (.int k 0), 1, by_))
    {base : Nat} {v : Value} {l : List Nat} (hs : a.eval s = v) (hown : NumRow w base e k v l)
    (ad : Addr) (m c : Nat) (news : List Nat) (hx : a.eval x = .slice (some ad) m c) (hl : news.length = m) (hnews : ∀ j u, (cellsN k news)[j]? = some u → w.cell? (ad.add j) = some u)
    (hlen : l.length + m ≤ 1073741824) (hbase : base ≤ w.heap.size)
    (h : ∀ v' w', NumRow w' base e k v' (l ++ news) → w.grownBy w' v.ownBlock → (v'.ownBlock = v.ownBlock ∨ v'.ownBlock = some w.heap.size) → wpList P ops Q rest (a.put o.dst v') w') : wpList P ops Q (o :: rest) a w := by
  obtain ⟨i, hi, hz0, hz1, hz2⟩ := info_parts hi5
  have hbb : (l.length + m) * by_ ≤ (l.length + m) * 8 := Nat.mul_le_mul_left _ hby
  refine wpList_append_own_at w hgd s x t ho base e i (.int k 0) 1 by_ ht hi hz0 hz1 hz2 rfl (by decide) v l.length (cellsN k l) hs hown ad m c (cellsN k news) hx (by rw [cellsN_length, hl, Nat.mul_one]) hnews (cellsN_one _ _)
    (by unfold maxLen; omega) (by omega) hbase fun v' w' h1 h2 _ h3 => h v' w' ?_ h2 h3
  unfold NumRow
  rw [List.length_append, hl, show cellsN k (l ++ news) = cellsN k l ++ cellsN k news by simp [cellsN]]
  exact h1
theorem NumRow.other {w w' : World} {base : Nat} {e : TypeId} {k : IntKind} {v : Value} {l : List Nat} {row : Option Nat} (h : NumRow w base e k v l) (hg : w.grownBy w' row) (hne : ∀ g, v.ownBlock = some g → row ≠ some g) : NumRow w' base e k v l := by
  refine World.ownsRow.kept (row := row) h hg ?_
  cases hv : v.ownBlock with
  | none => exact .inl rfl
  | some g => exact .inr (fun e => hne g hv e.symm)
end Go.Proofs.Nums
