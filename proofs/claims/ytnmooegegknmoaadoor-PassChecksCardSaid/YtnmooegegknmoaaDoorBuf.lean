/-
  A slice of bytes that the call itself makes and appends to: what it holds, how an append turns it, what 'string(b)' gives. Over any program.
-/
import Derived.WalkKit
import Derived.WalkSpells
import Derived.Laws.IdiomStrings
import Derived.Laws.AppendOwnNone
import Derived.Deep.RegionLaw
namespace Go.Proofs.Buf
open Go.RowKit

/-- A byte as a cell. -/
def byteV (c : UInt8) : Value := .int .u8 ((c.toNat : Nat) : Int)
def cellsOf (l : List UInt8) : List Value := l.map byteV
theorem cellsOf_length (l : List UInt8) : (cellsOf l).length = l.length := by simp [cellsOf]
theorem cellsOf_append (l m : List UInt8) : cellsOf (l ++ m) = cellsOf l ++ cellsOf m := by simp [cellsOf]
theorem cellsOf_oneCell (l : List UInt8) : ∀ u ∈ cellsOf l, u.oneCell' = true := by
  intro u hu
  obtain ⟨c, _, rfl⟩ := List.mem_map.1 hu
  rfl

/-- The value v is a slice of the call's own that holds the bytes l (nil, or a row of its own from block 'base' on). -/
def Buf (w : World) (base : Nat) (e : TypeId) (v : Value) (l : List UInt8) : Prop := w.ownsRow base e 1 v l.length (cellsOf l)

theorem Buf.nil (w : World) (base : Nat) (e : TypeId) : Buf w base e (.slice none 0 0) [] := World.ownsRow_nil w base e 1
theorem Buf.alloc {w : World} {base : Nat} {e : TypeId} {v : Value} {l : List UInt8} (h : Buf w base e v l) (o : Obj) : Buf (w.alloc o) base e v l := World.ownsRow.alloc h o
theorem Buf.drew {w : World} {base : Nat} {e : TypeId} {v : Value} {l : List UInt8} (h : Buf w base e v l) : Buf w.drew base e v l := h
theorem Buf.below {w w' : World} {base : Nat} {e : TypeId} {v : Value} {l : List UInt8} (h : Buf w base e v l) (hb : Below w.heap.size w w') : Buf w' base e v l := by
  refine World.ownsRow.kept (row := none) h ⟨hb.os, hb.tape, hb.output, hb.size, fun k hk _ => hb.block k hk⟩ ?_
  cases hv : v.ownBlock <;> simp

section
variable {P : Program}

/-- 'string(b)'. -/
theorem Buf.string {w : World} {base : Nat} {src dst e : TypeId} {v : Value} {l : List UInt8} (h : Buf w base e v l) (hs : P.underlying src = some (.slice e)) (he : P.underlying e = some (.int .u8)) (hd : P.underlying dst = some .string) :
    (convert src dst v).run P w = .ok (.string ⟨l.toArray⟩) w := by
  have hc := fun g => World.ownsRow.cells (g := g) h
  rcases h.2 with ⟨rfl, hn⟩ | ⟨g, cap, cur, rfl, _⟩
  · have : l = [] := List.eq_nil_of_length_eq_zero hn
    subst this
    rw [run_convert_bytes_string w src dst e none 0 0 hs he hd]
    rfl
  · refine run_convert_bytes_back w src dst e ⟨g, 0, none⟩ cap l hs he hd (fun j hj => ?_)
    refine hc g rfl j _ ?_
    simp [cellsOf, byteV, hj]

theorem Buf.len {w : World} {base : Nat} {e : TypeId} {v : Value} {l : List UInt8} (h : Buf w base e v l) : ∃ a cap, v = .slice a l.length cap := by
  rcases h.2 with ⟨rfl, hn⟩ | ⟨g, cap, cur, rfl, _⟩
  · exact ⟨none, 0, by rw [hn]⟩
  · exact ⟨_, cap, rfl⟩

/-- Its last byte. -/
theorem Buf.last {w : World} {base : Nat} {e : TypeId} {v : Value} {m : List UInt8} {c : UInt8} (h : Buf w base e v (m ++ [c])) :
    ∃ g cap, v = .slice (some ⟨g, 0, none⟩) (m.length + 1) cap ∧ m.length + 1 ≤ cap ∧ w.cell? ⟨g, m.length, none⟩ = some (.int .u8 ((c.toNat : Nat) : Int)) ∧ Buf w base e (.slice (some ⟨g, 0, none⟩) m.length cap) m := by
  have hc := fun g => World.ownsRow.cells (g := g) h
  obtain ⟨h0, h2⟩ := h
  rcases h2 with ⟨rfl, hn⟩ | ⟨g, cap, cur, rfl, hb, hg, hnc, hm, hs, ht⟩
  · simp at hn
  · rw [List.length_append, List.length_singleton] at hnc ht
    refine ⟨g, cap, by rw [List.length_append, List.length_singleton], hnc, ?_, ?_⟩
    · have := hc g rfl m.length (byteV c) (by simp [cellsOf])
      have ha : (⟨g, 0, none⟩ : Addr).add m.length = ⟨g, m.length, none⟩ := by unfold Addr.add; split <;> simp_all
      rw [ha] at this
      exact this
    · refine ⟨by rw [cellsOf_length, Nat.mul_one], .inr ⟨g, cap, cur, rfl, hb, hg, by omega, hm, hs, ?_⟩⟩
      rw [cellsOf_append] at ht
      have h3 := congrArg (List.take (m.length * 1)) ht
      rw [List.take_take, Nat.min_eq_left (by omega)] at h3
      rw [h3, List.take_append_of_le_length (by rw [cellsOf_length]; omega), List.take_of_length_le (by rw [cellsOf_length]; omega)]

/-- Bytes at an address. -/
def At (w : World) (a : Addr) (l : List UInt8) : Prop := ∀ j u, (cellsOf l)[j]? = some u → w.cell? (a.add j) = some u
theorem At.one (w : World) (c : UInt8) (e : TypeId) (n : Int) (hn : n = ((c.toNat : Nat) : Int)) : At (w.alloc (.cells #[.int .u8 n] e)) ⟨w.heap.size, 0, none⟩ [c] := by
  subst hn
  intro j u hu
  match j, hu with
  | 0, hu =>
    simp [cellsOf] at hu
    subst hu
    exact (cell_one_new _ _ _) 0 _ rfl
theorem At.two (w : World) (c d : UInt8) (e : TypeId) (n m : Int) (hn : n = ((c.toNat : Nat) : Int)) (hm : m = ((d.toNat : Nat) : Int)) : At (w.alloc (.cells #[.int .u8 n, .int .u8 m] e)) ⟨w.heap.size, 0, none⟩ [c, d] := by
  subst hn
  subst hm
  intro j u hu
  have ha : ∀ j : Nat, (⟨w.heap.size, 0, none⟩ : Addr).add j = ⟨w.heap.size, j, none⟩ := fun j => by unfold Addr.add; split <;> simp_all
  rw [ha, World.cell?_alloc_mark]
  match j, hu with
  | 0, hu => simpa [cellsOf, byteV] using hu
  | 1, hu => simpa [cellsOf, byteV] using hu

/-- append of bytes. -/
theorem wpList_append {w : World} {ops : Array Oper} {rest : List Oper} {o : Oper} {a : Act} {Q : Exit → Act → World → Prop} (hgd : o.guard = none) (s x : Operand) (t : TypeId)
    (ho : o.op = .call { callee := .builtin .append, args := #[s, x], argTypes := #[t, t] })
    {e : TypeId} (ht : P.underlying t = some (.slice e)) (hi5 : (P.info? e).map (fun i => (i.zero, i.size, i.bytes)) = some (some (.int .u8 0), 1, 1))
    {base : Nat} {v : Value} {l : List UInt8} (hs : a.eval s = v) (hown : Buf w base e v l)
    (ad : Addr) (m c : Nat) (news : List UInt8) (hx : a.eval x = .slice (some ad) m c) (hl : news.length = m) (hnews : At w ad news)
    (hlen : l.length + m ≤ 140737488355328) (hbase : base ≤ w.heap.size)
    (h : ∀ v' w', Buf w' base e v' (l ++ news) → w.grownBy w' v.ownBlock → wpList P ops Q rest (a.put o.dst v') w') : wpList P ops Q (o :: rest) a w := by
  obtain ⟨i, hi, hz0, hz1, hz2⟩ := info_parts hi5
  refine wpList_append_own w hgd s x t ho base e i (.int .u8 0) 1 1 ht hi hz0 hz1 hz2 rfl (by decide) v l.length (cellsOf l) hs hown ad m c (cellsOf news) hx (by rw [cellsOf_length, hl, Nat.mul_one]) hnews (cellsOf_oneCell _)
    (by unfold maxLen; omega) (by omega) hbase fun v' w' h1 h2 _ => h v' w' ?_ h2
  unfold Buf
  rw [cellsOf_append, List.length_append, hl]
  exact h1

/-- append of bytes, where there is room: the value is known. -/
theorem wpList_fits {w : World} {ops : Array Oper} {rest : List Oper} {o : Oper} {a : Act} {Q : Exit → Act → World → Prop} (hgd : o.guard = none) (s x : Operand) (t : TypeId)
    (ho : o.op = .call { callee := .builtin .append, args := #[s, x], argTypes := #[t, t] })
    {e : TypeId} (ht : P.underlying t = some (.slice e)) (hi5 : (P.info? e).map (fun i => (i.zero, i.size, i.bytes)) = some (some (.int .u8 0), 1, 1))
    {base g n cap : Nat} {l : List UInt8} (hs : a.eval s = .slice (some ⟨g, 0, none⟩) n cap) (hown : Buf w base e (.slice (some ⟨g, 0, none⟩) n cap) l) (hn : n = l.length)
    (ad : Addr) (m c : Nat) (news : List UInt8) (hx : a.eval x = .slice (some ad) m c) (hl : news.length = m) (hnews : At w ad news)
    (hroom : n + m ≤ cap)
    (h : ∀ w', Buf w' base e (.slice (some ⟨g, 0, none⟩) (n + m) cap) (l ++ news) → w.grownBy w' (some g) → wpList P ops Q rest (a.put o.dst (.slice (some ⟨g, 0, none⟩) (n + m) cap)) w') : wpList P ops Q (o :: rest) a w := by
  obtain ⟨i, hi, hz0, hz1, hz2⟩ := info_parts hi5
  subst hn
  obtain ⟨w', hrun, h1, h2⟩ := run_append_fits (P := P) w base t o.type e i 1 ht hi hz1 g l.length cap (cellsOf l) hown ad m c (cellsOf news) (by rw [cellsOf_length, hl, Nat.mul_one]) hnews (cellsOf_oneCell _) hroom
  refine wpList_plain hgd fun K hK => ?_
  unfold Oper.wp execOp
  simp only [ho, resolve, invoke, builtin, Sem.run_bind, Sem.run_pure, Result.andThen_ok, List.map_toArray, List.map_cons, List.map_nil, hs, hx, hrun]
  refine hK _ _ (h w' ?_ h2)
  unfold Buf
  rw [cellsOf_append, List.length_append, hl]
  exact h1

/-- append of bytes, where there is room, as a step of a region that draws: the value is known. -/
theorem step_append_fits {w : World} {ops : Array Oper} {o : Oper} {a : Act} {K : Act → World → Prop} {Q : Exit → Act → World → Prop} {E : Prop}
    (hg : o.guard = none) (s x : Operand) (t : TypeId) (hop : o.op = Op.call { callee := Callee.builtin Builtin.append, args := #[s, x], argTypes := #[t, t] })
    {e : TypeId} (ht : P.underlying t = some (.slice e)) (hi5 : (P.info? e).map (fun i => (i.zero, i.size, i.bytes)) = some (some (.int .u8 0), 1, 1))
    {base g n cap : Nat} {l : List UInt8} (hs : a.eval s = .slice (some ⟨g, 0, none⟩) n cap) (hown : Buf w base e (.slice (some ⟨g, 0, none⟩) n cap) l) (hn : n = l.length)
    (ad : Addr) (m c : Nat) (news : List UInt8) (hx : a.eval x = .slice (some ad) m c) (hl : news.length = m) (hnews : At w ad news)
    (hroom : n + m ≤ cap)
    (hK : ∀ w', Buf w' base e (.slice (some ⟨g, 0, none⟩) (n + m) cap) (l ++ news) → w.grownBy w' (some g) → K (a.put o.dst (.slice (some ⟨g, 0, none⟩) (n + m) cap)) w') :
    if Region.wanted o (yielded ops a.tmps) = true then Oper.wp P o a w K Q else E := by
  have hw : Region.wanted o (yielded ops a.tmps) = true := by simp [Region.wanted, hg]
  rw [if_pos hw]
  obtain ⟨i, hi, hz0, hz1, hz2⟩ := info_parts hi5
  subst hn
  obtain ⟨w', hrun, h1, h2⟩ := run_append_fits (P := P) w base t o.type e i 1 ht hi hz1 g l.length cap (cellsOf l) hown ad m c (cellsOf news) (by rw [cellsOf_length, hl, Nat.mul_one]) hnews (cellsOf_oneCell _) hroom
  unfold Oper.wp
  simp [execOp, hop, resolve, invoke, builtin, hs, hx, hrun, Result.andThen]
  refine hK w' ?_ h2
  unfold Buf
  rw [cellsOf_append, List.length_append, hl]
  exact h1

/-- The block B reads as the bytes l, and may be written. -/
def BytesAt (w : World) (B : Nat) (l : List UInt8) : Prop :=
  (∀ j, (h : j < l.length) → w.cell? ⟨B, j, none⟩ = some (.int .u8 (l[j].toNat : Nat))) ∧ (∀ j, j < l.length → w.frozen? ⟨B, j, none⟩ = false)

theorem bytesAt_new (w : World) (s : ByteArray) (cap : Nat) (T : TypeId) : BytesAt (w.alloc (.cells (bytesRow s cap) T ((bytesRow s cap).size, (bytesRow s cap).size + 1))) w.heap.size s.data.toList := by
  refine ⟨fun j hj => ?_, fun j hj => ?_⟩
  · rw [World.cell?_alloc_mark, bytesRow_at s cap j (by simpa using hj)]
    simp
  · rw [World.frozen?_alloc_mark]
    have : j < (bytesRow s cap).size := by
      simp [bytesRow] at hj ⊢
      omega
    simp
    omega
theorem bytesAt_made (w : World) (n : Nat) (T : TypeId) : BytesAt (w.alloc (.cells (madeCells #[.int .u8 0] n) T)) w.heap.size (List.replicate n 0) := by
  refine ⟨fun j hj => ?_, fun j hj => World.frozen?_alloc_at _ _ _ _ rfl⟩
  have hj' : j < n := by simpa using hj
  rw [World.cell?_alloc_mark]
  simp [madeCells, hj', Nat.mod_one]
theorem BytesAt.drew {w : World} {B : Nat} {l : List UInt8} (h : BytesAt w B l) : BytesAt w.drew B l := h
theorem BytesAt.set {w : World} {B : Nat} {l : List UInt8} (h : BytesAt w B l) (i : Nat) (hi : i < l.length) (c : UInt8) : BytesAt (w.setCell ⟨B, i, none⟩ (.int .u8 (c.toNat : Nat))) B (l.set i c) := by
  refine ⟨fun j hj => ?_, fun j hj => ?_⟩
  · have hj' : j < l.length := by simpa using hj
    by_cases hij : i = j
    · subst hij
      rw [World.cell?_setCell_same _ _ _ (h.1 i hi)]
      simp
    · rw [World.cell?_setCell_other _ _ _ _ (by intro e; injection e with e1 e2; omega), h.1 j hj']
      simp [hij]
  · have hj' : j < l.length := by simpa using hj
    rw [World.frozen?_setCell]
    exact h.2 j hj'
theorem BytesAt.below {w w' : World} {B : Nat} {l : List UInt8} (h : BytesAt w B l) {C : Nat} (hb : Below C w w') (hB : B < C) : BytesAt w' B l :=
  ⟨fun j hj => by rw [hb.cell (p := ⟨B, j, none⟩) hB]; exact h.1 j hj, fun j hj => by rw [hb.frozen (p := ⟨B, j, none⟩) hB]; exact h.2 j hj⟩
/-- A byte by its place, in the spelling of 'getD'. -/
theorem BytesAt.get {w : World} {B : Nat} {l : List UInt8} (h : BytesAt w B l) (j : Nat) (hj : j < l.length) : w.cell? ⟨B, j, none⟩ = some (.int .u8 ((l.getD j 0).toNat : Nat)) := by
  rw [h.1 j hj, List.getD_eq_getElem?_getD, List.getElem?_eq_getElem hj]
  rfl
theorem BytesAt.string {w : World} {B cap : Nat} {l : List UInt8} {src dst e : TypeId} (h : BytesAt w B l) (n : Nat) (hn : n = l.length) (hs : P.underlying src = some (.slice e)) (he : P.underlying e = some (.int .u8)) (hd : P.underlying dst = some .string) :
    (convert src dst (.slice (some ⟨B, 0, none⟩) n cap)).run P w = .ok (.string ⟨l.toArray⟩) w := by
  subst hn
  refine run_convert_bytes_back w src dst e ⟨B, 0, none⟩ cap l hs he hd (fun j hj => ?_)
  have ha : (⟨B, 0, none⟩ : Addr).add j = ⟨B, j, none⟩ := by unfold Addr.add; split <;> simp_all
  rw [ha]
  exact h.1 j hj

/-- A block that is not the row which grows keeps its bytes. -/
theorem BytesAt.grown {w w' : World} {B : Nat} {l : List UInt8} {row : Option Nat} (h : BytesAt w B l) (hg : w.grownBy w' row) (hB : B < w.heap.size) (hne : some B ≠ row) : BytesAt w' B l := by
  have hb : w'.heap[B]? = w.heap[B]? := hg.block B hB hne
  exact ⟨fun j hj => (World.cell?_of_block (w := w) (a := ⟨B, j, none⟩) hb).trans (h.1 j hj), fun j hj => (World.frozen?_of_block (w := w) (a := ⟨B, j, none⟩) hb).trans (h.2 j hj)⟩
theorem BytesAt.alloc {w : World} {B : Nat} {l : List UInt8} (h : BytesAt w B l) (hB : B < w.heap.size) (o : Obj) : BytesAt (w.alloc o) B l :=
  h.grown (World.grownBy_alloc w o none) hB (by simp)

/-- '[]byte(s)' by itself. -/
theorem bytes_at {w : World} (s : ByteArray) (cap : Nat) (e : TypeId) (j : Nat) (hj : j < s.size) :
    (w.alloc (.cells (bytesRow s cap) e ((bytesRow s cap).size, (bytesRow s cap).size + 1))).cell? ⟨w.heap.size, j, none⟩ = some (.int .u8 ((s.data[j].toNat : Nat) : Int)) := by
  rw [World.cell?_alloc_mark]
  exact bytesRow_at s cap j hj
end
end Go.Proofs.Buf
