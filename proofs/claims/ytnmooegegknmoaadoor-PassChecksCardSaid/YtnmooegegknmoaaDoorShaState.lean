/-
  A state of the digest in memory, what a write turns of it, and the appends that it is written by.
-/
import Derived.Test.YtnmooegegknmoaaDoorShaBlock
import Derived.Test.YtnmooegegknmoaaDoorShaConst
import Derived.Lib.AppendStr
import Derived.Lib.Strings
import Derived.Maps.AppendAt
import Derived.OwnWalk
namespace Go.Proofs.Sha
open Go.RowKit Go.Proofs.Buf

/-- A string's bytes. -/
def bs (s : ByteArray) : List UInt8 := s.data.toList
theorem bs_length (s : ByteArray) : (bs s).length = s.size := by unfold bs; rw [Array.length_toList]; rfl
theorem bs_cells (s : ByteArray) : Lib.strCells s = cellsOf (bs s) := rfl
theorem bs_extract (s : ByteArray) (a b : Nat) : bs (s.extract a b) = ((bs s).drop a).take (b - a) := Lib.extract_data s a b
theorem bs_mk (l : List UInt8) : bs ⟨l.toArray⟩ = l := by simp [bs]
theorem bs_ext {s t : ByteArray} (h : bs s = bs t) : s = t := by
  cases s; cases t
  simp only [bs] at h
  congr 1
  exact Array.toList_inj.1 h
theorem bs_cat (s t : ByteArray) : bs (s ++ t) = bs s ++ bs t := by simp [bs]

/-- What a call that turns the state at block B (its rest's value was v, is v') leaves of the rest. -/
structure Upd (w w' : World) (B : Nat) (v v' : Value) : Prop where
  os : w'.os = w.os
  tape : w'.tape = w.tape
  output : w'.output = w.output
  size : w.heap.size ≤ w'.heap.size
  block : ∀ k, k < w.heap.size → k ≠ B → some k ≠ v.ownBlock → w'.heap[k]? = w.heap[k]?
  row : ∀ k, v'.ownBlock = some k → v.ownBlock = some k ∨ w.heap.size ≤ k

theorem Upd.refl (w : World) (B : Nat) (v : Value) : Upd w w B v v := ⟨rfl, rfl, rfl, Nat.le_refl _, fun _ _ _ _ => rfl, fun _ h => .inl h⟩
theorem Upd.trans {a b c : World} {B : Nat} {u v x : Value} (h : Upd a b B u v) (k : Upd b c B v x) : Upd a c B u x := by
  refine ⟨k.os.trans h.os, k.tape.trans h.tape, k.output.trans h.output, Nat.le_trans h.size k.size, fun i hi hB hu => ?_, fun i hi => ?_⟩
  · refine (k.block i (Nat.lt_of_lt_of_le hi h.size) hB (fun e => ?_)).trans (h.block i hi hB hu)
    rcases h.row i e.symm with h1 | h1
    · exact hu h1.symm
    · omega
  · rcases k.row i hi with h1 | h1
    · exact h.row i h1
    · exact .inr (Nat.le_trans h.size h1)
theorem Upd.drew {w w' : World} {B : Nat} {v v' : Value} (h : Upd w w' B v v') : Upd w w'.drew B v v' := ⟨h.os, h.tape, h.output, h.size, h.block, h.row⟩
theorem Upd.drewN {w w' : World} {B : Nat} {v v' : Value} (h : Upd w w' B v v') (n : Nat) : Upd w (w'.drewN n) B v v' := ⟨h.os, h.tape, h.output, h.size, h.block, h.row⟩
theorem Upd.put {w w' : World} {B : Nat} {v v' : Value} (h : Upd w w' B v v') (j : Nat) (x : Value) : Upd w (w'.setCell ⟨B, j, none⟩ x) B v v' :=
  ⟨h.os, h.tape, h.output, by simpa [World.setCell] using h.size, fun k hk hB hv => (Below.heap_setCell _ _ _ _ hB).trans (h.block k hk hB hv), h.row⟩
theorem Upd.below {w w' w'' : World} {B : Nat} {v v' : Value} (h : Upd w w' B v v') (hb : Below w'.heap.size w' w'') : Upd w w'' B v v' :=
  ⟨hb.os.trans h.os, hb.tape.trans h.tape, hb.output.trans h.output, Nat.le_trans h.size hb.size, fun k hk hB hv => (hb.block k (Nat.lt_of_lt_of_le hk h.size)).trans (h.block k hk hB hv), h.row⟩
/-- The rest grows. -/
theorem Upd.grown {w w' w'' : World} {B : Nat} {v v' v'' : Value} (h : Upd w w' B v v') (hg : w'.grownBy w'' v'.ownBlock) (hr : v''.ownBlock = v'.ownBlock ∨ v''.ownBlock = some w'.heap.size) : Upd w w'' B v v'' := by
  refine h.trans ⟨hg.os, hg.tape, hg.output, hg.size, fun k hk _ hv => hg.block k hk hv, fun k hk => ?_⟩
  rcases hr with e | e
  · exact .inl (by rw [← e]; exact hk)
  · rw [e] at hk
    injection hk with hk
    exact .inr (by omega)
/-- The rest is laid aside. -/
theorem Upd.nil {w w' : World} {B : Nat} {v v' : Value} (h : Upd w w' B v v') : Upd w w' B v (.slice none 0 0) :=
  ⟨h.os, h.tape, h.output, h.size, h.block, fun k hk => by simp [Value.ownBlock] at hk⟩
/-- Below a base that the state lies behind nothing turns. -/
theorem Upd.toBelow {w w' : World} {B base : Nat} {v v' : Value} (h : Upd w w' B v v') (hB : base ≤ B) (hv : ∀ k, v.ownBlock = some k → base ≤ k) (hs : base ≤ w.heap.size) : Below base w w' :=
  ⟨h.os, h.tape, h.output, h.size, fun k hk => h.block k (by omega) (by omega) (fun e => by have := hv k e.symm; omega)⟩

/-- A state at block B behind the text l, whose count is n and whose rest is v. -/
structure St (w : World) (B : Nat) (v : Value) (l : List UInt8) (n : Nat) : Prop where
  lo : 1 < B
  hi : B < w.heap.size
  tab : ∀ i, i < 64 → w.cell? ⟨1, i, none⟩ = some (.int .u32 (u32 (KW i)))
  words : Words w B 8 (wordsOf KW H0 l).get
  rest : w.cell? ⟨B, 8, none⟩ = some v
  restF : w.frozen? ⟨B, 8, none⟩ = false
  count : w.cell? ⟨B, 9, none⟩ = some (.int .u64 ((n : Nat) : Int))
  countF : w.frozen? ⟨B, 9, none⟩ = false
  buf : Buf w (B + 1) 5 v (restOf l)

section
variable {w w' : World} {B : Nat} {v v' : Value} {l : List UInt8} {n : Nat}

theorem other_cell (h : w'.heap[B]? = w.heap[B]?) (j : Nat) : w'.cell? ⟨B, j, none⟩ = w.cell? ⟨B, j, none⟩ := World.cell?_of_block h
theorem other_frozen (h : w'.heap[B]? = w.heap[B]?) (j : Nat) : w'.frozen? ⟨B, j, none⟩ = w.frozen? ⟨B, j, none⟩ := World.frozen?_of_block h
theorem Words.same {f : Nat → BitVec 32} {m : Nat} (h : Words w B m f) (hb : w'.heap[B]? = w.heap[B]?) : Words w' B m f :=
  ⟨fun i hi => by rw [other_cell hb]; exact h.1 i hi, fun i hi => by rw [other_frozen hb]; exact h.2 i hi⟩
theorem St.below (h : St w B v l n) (hb : Below w.heap.size w w') : St w' B v l n := by
  have hB := hb.block B h.hi
  have h1 := hb.block 1 (Nat.lt_trans h.lo h.hi)
  exact ⟨h.lo, Nat.lt_of_lt_of_le h.hi hb.size, fun i hi => by rw [other_cell h1]; exact h.tab i hi, h.words.same hB, by rw [other_cell hB]; exact h.rest, by rw [other_frozen hB]; exact h.restF, by rw [other_cell hB]; exact h.count, by rw [other_frozen hB]; exact h.countF, h.buf.below hb⟩
theorem St.drew (h : St w B v l n) : St w.drew B v l n := ⟨h.lo, h.hi, h.tab, h.words, h.rest, h.restF, h.count, h.countF, h.buf⟩
theorem St.drewN (h : St w B v l n) (k : Nat) : St (w.drewN k) B v l n := ⟨h.lo, h.hi, h.tab, h.words, h.rest, h.restF, h.count, h.countF, h.buf⟩
theorem St.alloc (h : St w B v l n) (o : Obj) : St (w.alloc o) B v l n := h.below ((Below.refl _ _).alloc (Nat.le_refl _) o)
/-- Where nothing of the state turns. -/
theorem St.far (h : St w B v l n) (hs : w.heap.size ≤ w'.heap.size) (hb : ∀ k, k = 1 ∨ k = B ∨ v.ownBlock = some k → w'.heap[k]? = w.heap[k]?) : St w' B v l n := by
  have hB := hb B (.inr (.inl rfl))
  have h1 := hb 1 (.inl rfl)
  refine ⟨h.lo, Nat.lt_of_lt_of_le h.hi hs, fun i hi => by rw [other_cell h1]; exact h.tab i hi, h.words.same hB, by rw [other_cell hB]; exact h.rest, by rw [other_frozen hB]; exact h.restF, by rw [other_cell hB]; exact h.count, by rw [other_frozen hB]; exact h.countF, ?_⟩
  obtain ⟨hx, hown⟩ := h.buf
  refine ⟨hx, ?_⟩
  rcases hown with hn | ⟨g, cap, cur, hv, hbg, hg, hrest⟩
  · exact .inl hn
  · refine .inr ⟨g, cap, cur, hv, hbg, ?_, hrest⟩
    rw [hb g (.inr (.inr (by rw [hv]; rfl)))]
    exact hg
/-- A store into the state's own block keeps the rest's row and the table. -/
theorem buf_put (h : Buf w (B + 1) 5 v (restOf l)) (j : Nat) (x : Value) : Buf (w.setCell ⟨B, j, none⟩ x) (B + 1) 5 v (restOf l) :=
  ownsRow_setCell_below h (by show B < B + 1; omega) x
theorem put_cell (j i : Nat) (x : Value) (hij : i ≠ j) : (w.setCell ⟨B, j, none⟩ x).cell? ⟨B, i, none⟩ = w.cell? ⟨B, i, none⟩ :=
  World.cell?_setCell_other _ _ _ _ (by intro e; injection e with e1 e2; exact hij e2.symm)
theorem Words.far_put {f : Nat → BitVec 32} {m : Nat} (h : Words w B m f) (j : Nat) (hj : m ≤ j) (x : Value) : Words (w.setCell ⟨B, j, none⟩ x) B m f :=
  ⟨fun i hi => by rw [put_cell _ _ _ (by omega)]; exact h.1 i hi, fun i hi => by rw [World.frozen?_setCell]; exact h.2 i hi⟩
theorem St.setCount (h : St w B v l n) (m : Nat) : St (w.setCell ⟨B, 9, none⟩ (.int .u64 ((m : Nat) : Int))) B v l m := by
  have hlo := h.lo
  refine ⟨h.lo, by simpa [World.setCell] using h.hi, fun i hi => ?_, h.words.far_put 9 (by omega) _, ?_, by rw [World.frozen?_setCell]; exact h.restF, World.cell?_setCell_same _ _ _ h.count, by rw [World.frozen?_setCell]; exact h.countF, buf_put h.buf 9 _⟩
  · rw [World.cell?_setCell_other _ _ _ _ (by intro e; injection e with e1 e2; omega)]
    exact h.tab i hi
  · rw [put_cell _ _ _ (by omega)]
    exact h.rest
/-- The rest's cell is set. -/
theorem St.setRest (h : St w B v l n) {l' : List UInt8} {w1 : World} (hw : wordsOf KW H0 l' = wordsOf KW H0 l) (hs : w.heap.size ≤ w1.heap.size) (hB : w1.heap[B]? = w.heap[B]?) (h1 : w1.heap[1]? = w.heap[1]?) (hb : Buf w1 (B + 1) 5 v' (restOf l')) :
    St (w1.setCell ⟨B, 8, none⟩ v') B v' l' n := by
  have hlo := h.lo
  refine ⟨h.lo, by have := h.hi; simp only [World.setCell, Array.size_modify]; omega, fun i hi => ?_, ?_, ?_, by rw [World.frozen?_setCell, other_frozen hB]; exact h.restF, ?_, by rw [World.frozen?_setCell, other_frozen hB]; exact h.countF, buf_put hb 8 _⟩
  · rw [World.cell?_setCell_other _ _ _ _ (by intro e; injection e with e1 e2; omega), other_cell h1]
    exact h.tab i hi
  · rw [hw]
    exact (h.words.same hB).far_put 8 (by omega) _
  · exact World.cell?_setCell_same _ _ _ ((other_cell hB 8).trans h.rest)
  · rw [put_cell _ _ _ (by omega), other_cell hB]
    exact h.count
theorem _root_.Go.Proofs.Buf.Buf.le_cap {base : Nat} {e : TypeId} {A : Option Addr} {k c : Nat} (h : Buf w base e (.slice A k c) l) : k ≤ c := by
  rcases h.2 with ⟨hv, hn⟩ | ⟨g, cap, cur, hv, _, _, hnc, _⟩
  · injection hv with _ e1 e2
    omega
  · injection hv with _ e1 e2
    omega
theorem St.len (h : St w B v l n) : ∃ A c, v = .slice A (l.length % 64) c := by
  obtain ⟨A, c, e⟩ := h.buf.len
  rw [restOf_length] at e
  exact ⟨A, c, e⟩
end

section
variable {P : Program} (w : World)
/-- append of a string's bytes; where the new row lies. -/
theorem run_append_str_at (base : Nat) (t u ty e : TypeId) (ht : P.underlying t = some (.slice e)) (hu : P.underlying u = some .string) (hi5 : (P.info? e).map (fun i => (i.zero, i.size, i.bytes)) = some (some (.int .u8 0), 1, 1))
    (v : Value) (l : List UInt8) (hown : Buf w base e v l) (s : ByteArray) (hlen : l.length + s.size ≤ 140737488355328) (hbase : base ≤ w.heap.size) :
    ∃ v' w', (Builtin.append_ #[t, u] ty #[v, .string s]).run P w = .ok v' w' ∧ Buf w' base e v' (l ++ bs s) ∧ w.grownBy w' v.ownBlock ∧ (v'.ownBlock = v.ownBlock ∨ v'.ownBlock = some w.heap.size) := by
  obtain ⟨i, hi, hz, hsz, hby⟩ := info_parts hi5
  obtain ⟨v', w', hr, h1, h2, h3⟩ := Lib.run_append_own_string (P := P) w base t u ty e i ht hu hi hz hsz hby v l.length (cellsOf l) hown s (by unfold maxLen; omega) hlen hbase
  refine ⟨v', w', hr, ?_, h2, ?_⟩
  · unfold Buf
    rw [cellsOf_append, List.length_append, bs_length]
    exact h1
  · have hc := fun g => World.ownsRow.cells (g := g) hown
    rcases hown.2 with ⟨rfl, hn⟩ | ⟨g, cap, cur, rfl, hbg, hg, hnc, hcm, hcs, htake⟩
    · by_cases hm : s.size = 0
      · rw [h3.2 ⟨rfl, hm⟩]
        exact .inl rfl
      · have hr2 := run_append_nil_string (P := P) w t u ty e i (.int .u8 0) ht hu hi hz s (by omega) (by omega) (by rw [hby]; omega)
        rw [hr2] at hr
        injection hr with hv _
        rw [← hv]
        exact .inr rfl
    · by_cases hroom : l.length + s.size ≤ cap
      · have hr2 := Lib.run_append_room_string (P := P) w t u ty e i ht hu hi hsz g l.length cap cur hg s hroom (by omega)
        rw [hr2] at hr
        injection hr with hv _
        rw [← hv]
        exact .inl rfl
      · have hr2 := Lib.run_append_grow_string (P := P) w t u ty e i (.int .u8 0) ht hu hi hz ⟨g, 0, none⟩ l.length cap (cellsOf l) (by rw [cellsOf_length, hsz, Nat.mul_one]) (hc g rfl) s (by omega) (by omega) (by rw [hby]; exact growslice_fits (by omega) (by omega))
        rw [hr2] at hr
        injection hr with hv _
        rw [← hv]
        exact .inr rfl

/-- append of a string's bytes onto a rest that is cut at its length: a new row. -/
theorem run_append_clip (base : Nat) (t u ty e : TypeId) (ht : P.underlying t = some (.slice e)) (hu : P.underlying u = some .string) (hi5 : (P.info? e).map (fun i => (i.zero, i.size, i.bytes)) = some (some (.int .u8 0), 1, 1))
    (A : Option Addr) (c : Nat) (l : List UInt8) (hown : Buf w base e (.slice A l.length c) l) (s : ByteArray) (h0 : 0 < s.size) (hlen : l.length + s.size ≤ 140737488355328) :
    ∃ cap w', (Builtin.append_ #[t, u] ty #[.slice A l.length l.length, .string s]).run P w = .ok (.slice (some ⟨w.heap.size, 0, none⟩) (l.length + s.size) cap) w' ∧ Below w.heap.size w w' ∧ w.heap.size < w'.heap.size ∧
      (∀ i, i < l.length + s.size → w'.cell? ⟨w.heap.size, i, none⟩ = some (.int .u8 ((((l ++ bs s).getD i 0).toNat : Nat) : Int))) := by
  obtain ⟨i, hi, hz, hsz, hby⟩ := info_parts hi5
  have cells : ∀ (C Z : Array Value), C = (cellsOf (l ++ bs s)).toArray → ∀ i, i < l.length + s.size → (w.drew.alloc (.cells (C ++ Z) e)).cell? ⟨w.heap.size, i, none⟩ = some (.int .u8 ((((l ++ bs s).getD i 0).toNat : Nat) : Int)) := by
    intro C Z hC i hi
    subst hC
    have hl : i < (l ++ bs s).length := by rw [List.length_append, bs_length]; exact hi
    rw [show (⟨w.heap.size, i, none⟩ : Addr) = ⟨w.drew.heap.size, i, none⟩ from rfl, World.cell?_alloc_mark, Array.getElem?_append_left (by simpa [cellsOf_length] using hl)]
    rw [List.getElem?_toArray, cellsOf, List.getElem?_map, List.getD_eq_getElem?_getD, List.getElem?_eq_getElem hl]
    rfl
  have hbel : ∀ o, Below w.heap.size w (w.drew.alloc o) := fun o => ((Below.refl _ _).drew).alloc (Nat.le_refl _) o
  have hsize : ∀ o, w.heap.size < (w.drew.alloc o).heap.size := fun o => by simp
  rcases hown.2 with ⟨hv, hn⟩ | ⟨g, cap, cur, hv, hbg, hg, hnc, hcm, hcs, htake⟩
  · injection hv with hA _ _
    subst hA
    have hl : l = [] := List.eq_nil_of_length_eq_zero hn
    subst hl
    have hr := run_append_nil_string (P := P) w t u ty e i (.int .u8 0) ht hu hi hz s h0 (by omega) (by rw [hby]; omega)
    refine ⟨_, _, by simpa using hr, hbel _, hsize _, fun j hj => cells _ _ ?_ j hj⟩
    apply Array.ext'
    simp [cellsOf, bs, byteV]
  · have hA : A = some ⟨g, 0, none⟩ := by injection hv
    subst hA
    have hc : ∀ j u, (cellsOf l)[j]? = some u → w.cell? ((⟨g, 0, none⟩ : Addr).add j) = some u := World.ownsRow.cells (g := g) hown rfl
    have hr := Lib.run_append_grow_string (P := P) w t u ty e i (.int .u8 0) ht hu hi hz ⟨g, 0, none⟩ l.length l.length (cellsOf l) (by rw [cellsOf_length, hsz, Nat.mul_one]) hc s (by omega) (by omega) (by rw [hby]; exact growslice_fits (by omega) (by omega))
    refine ⟨_, _, hr, hbel _, hsize _, fun j hj => cells _ _ ?_ j hj⟩
    apply Array.ext'
    simp [cellsOf, bs, byteV, Lib.strCells]

theorem wpList_append_str {w : World} {ops : Array Oper} {rest : List Oper} {o : Oper} {a : Act} {Q : Exit → Act → World → Prop} (hgd : o.guard = none) (s x : Operand) (t u : TypeId)
    (ho : o.op = .call { callee := .builtin .append, args := #[s, x], argTypes := #[t, u] })
    {e : TypeId} (ht : P.underlying t = some (.slice e)) (hu : P.underlying u = some .string) (hi5 : (P.info? e).map (fun i => (i.zero, i.size, i.bytes)) = some (some (.int .u8 0), 1, 1))
    {base : Nat} {v : Value} {l : List UInt8} (hs : a.eval s = v) (hown : Buf w base e v l) (q : ByteArray) (hx : a.eval x = .string q)
    (hlen : l.length + q.size ≤ 140737488355328) (hbase : base ≤ w.heap.size)
    (h : ∀ v' w', Buf w' base e v' (l ++ bs q) → w.grownBy w' v.ownBlock → (v'.ownBlock = v.ownBlock ∨ v'.ownBlock = some w.heap.size) → wpList P ops Q rest (a.put o.dst v') w') : wpList P ops Q (o :: rest) a w := by
  obtain ⟨v', w', hrun, h1, h2, h3⟩ := run_append_str_at (P := P) w base t u o.type e ht hu hi5 v l hown q hlen hbase
  refine wpList_plain hgd fun K hK => ?_
  unfold Oper.wp execOp
  simp only [ho, resolve, invoke, builtin, Sem.run_bind, Sem.run_pure, Result.andThen_ok, List.map_toArray, List.map_cons, List.map_nil, hs, hx, hrun]
  exact hK _ _ (h v' w' h1 h2 h3)
theorem wpList_append_clip {w : World} {ops : Array Oper} {rest : List Oper} {o : Oper} {a : Act} {Q : Exit → Act → World → Prop} (hgd : o.guard = none) (s x : Operand) (t u : TypeId)
    (ho : o.op = .call { callee := .builtin .append, args := #[s, x], argTypes := #[t, u] })
    {e : TypeId} (ht : P.underlying t = some (.slice e)) (hu : P.underlying u = some .string) (hi5 : (P.info? e).map (fun i => (i.zero, i.size, i.bytes)) = some (some (.int .u8 0), 1, 1))
    {base : Nat} (A : Option Addr) (c n tot : Nat) {l : List UInt8} (hn : n = l.length) (hs : a.eval s = .slice A n n) (hown : Buf w base e (.slice A n c) l) (q : ByteArray) (hx : a.eval x = .string q) (h0 : 0 < q.size)
    (htot : n + q.size = tot) (hlen : tot ≤ 140737488355328)
    (h : ∀ cap w', Below w.heap.size w w' → w.heap.size < w'.heap.size → (∀ i, i < tot → w'.cell? ⟨w.heap.size, i, none⟩ = some (.int .u8 ((((l ++ bs q).getD i 0).toNat : Nat) : Int))) → wpList P ops Q rest (a.put o.dst (.slice (some ⟨w.heap.size, 0, none⟩) tot cap)) w') : wpList P ops Q (o :: rest) a w := by
  subst hn
  subst htot
  obtain ⟨cap, w', hrun, h1, h2, h3⟩ := run_append_clip (P := P) w base t u o.type e ht hu hi5 A c l hown q h0 hlen
  refine wpList_plain hgd fun K hK => ?_
  unfold Oper.wp execOp
  simp only [ho, resolve, invoke, builtin, Sem.run_bind, Sem.run_pure, Result.andThen_ok, List.map_toArray, List.map_cons, List.map_nil, hs, hx, hrun]
  exact hK _ _ (h cap w' h1 h2 h3)

theorem step_append_clip {w : World} {ops : Array Oper} {o : Oper} {a : Act} {K : Act → World → Prop} {Q : Exit → Act → World → Prop} {E : Prop} (hg : o.guard = none) (s x : Operand) (t u : TypeId)
    (ho : o.op = .call { callee := .builtin .append, args := #[s, x], argTypes := #[t, u] })
    {e : TypeId} (ht : P.underlying t = some (.slice e)) (hu : P.underlying u = some .string) (hi5 : (P.info? e).map (fun i => (i.zero, i.size, i.bytes)) = some (some (.int .u8 0), 1, 1))
    {base : Nat} (A : Option Addr) (c n tot : Nat) {l : List UInt8} (hn : n = l.length) (hs : a.eval s = .slice A n n) (hown : Buf w base e (.slice A n c) l) (q : ByteArray) (hx : a.eval x = .string q) (h0 : 0 < q.size)
    (htot : n + q.size = tot) (hlen : tot ≤ 140737488355328)
    (h : ∀ cap w', Below w.heap.size w w' → w.heap.size < w'.heap.size → (∀ i, i < tot → w'.cell? ⟨w.heap.size, i, none⟩ = some (.int .u8 ((((l ++ bs q).getD i 0).toNat : Nat) : Int))) → K (a.put o.dst (.slice (some ⟨w.heap.size, 0, none⟩) tot cap)) w') :
    if Region.wanted o (yielded ops a.tmps) = true then Oper.wp P o a w K Q else E := by
  have hw : Region.wanted o (yielded ops a.tmps) = true := by simp [Region.wanted, hg]
  rw [if_pos hw]
  subst hn
  subst htot
  obtain ⟨cap, w', hrun, h1, h2, h3⟩ := run_append_clip (P := P) w base t u o.type e ht hu hi5 A c l hown q h0 hlen
  unfold Oper.wp execOp
  simp only [ho, resolve, invoke, builtin, Sem.run_bind, Sem.run_pure, Result.andThen_ok, List.map_toArray, List.map_cons, List.map_nil, hs, hx, hrun]
  exact h cap w' h1 h2 h3

/-- append of bytes that lie at an address, or of nil; where the new row lies. -/
def Bytes (w : World) (A : Option Addr) (l : List UInt8) : Prop := A = none ∧ l = [] ∨ ∃ ad, A = some ad ∧ At w ad l
theorem Buf.bytes {w : World} {base : Nat} {e : TypeId} {A : Option Addr} {n c : Nat} {l : List UInt8} (h : Buf w base e (.slice A n c) l) : Bytes w A l := by
  have hc := fun g => World.ownsRow.cells (g := g) h
  rcases h.2 with ⟨hv, hn⟩ | ⟨g, cap, cur, hv, _⟩
  · injection hv with hA _ _
    exact .inl ⟨hA, List.eq_nil_of_length_eq_zero hn⟩
  · injection hv with hA _ _
    subst hA
    exact .inr ⟨_, rfl, hc g rfl⟩
theorem wpList_append_bytes {w : World} {ops : Array Oper} {rest : List Oper} {o : Oper} {a : Act} {Q : Exit → Act → World → Prop} (hgd : o.guard = none) (s x : Operand) (t : TypeId)
    (ho : o.op = .call { callee := .builtin .append, args := #[s, x], argTypes := #[t, t] })
    {e : TypeId} (ht : P.underlying t = some (.slice e)) (hi5 : (P.info? e).map (fun i => (i.zero, i.size, i.bytes)) = some (some (.int .u8 0), 1, 1))
    {base : Nat} {v : Value} {l : List UInt8} (hs : a.eval s = v) (hown : Buf w base e v l)
    (A : Option Addr) (m c : Nat) (news : List UInt8) (hx : a.eval x = .slice A m c) (hl : news.length = m) (hnews : Bytes w A news)
    (hlen : l.length + m ≤ 140737488355328) (hbase : base ≤ w.heap.size)
    (h : ∀ v' w', Buf w' base e v' (l ++ news) → w.grownBy w' v.ownBlock → (v'.ownBlock = v.ownBlock ∨ v'.ownBlock = some w.heap.size) → wpList P ops Q rest (a.put o.dst v') w') : wpList P ops Q (o :: rest) a w := by
  obtain ⟨i, hi, hz0, hz1, hz2⟩ := info_parts hi5
  have key : ∃ v' w', (Builtin.append_ #[t, t] o.type #[v, .slice A m c]).run P w = .ok v' w' ∧ Buf w' base e v' (l ++ news) ∧ w.grownBy w' v.ownBlock ∧ (v'.ownBlock = v.ownBlock ∨ v'.ownBlock = some w.heap.size) := by
    rcases hnews with ⟨rfl, rfl⟩ | ⟨ad, rfl, hat⟩
    · simp only [List.length_nil] at hl
      subst hl
      refine ⟨v, w, ?_, by simpa using hown, ⟨rfl, rfl, rfl, Nat.le_refl _, fun _ _ _ => rfl⟩, .inl rfl⟩
      rcases hown.2 with ⟨rfl, hn⟩ | ⟨g, cap, cur, rfl, _, _, hnc, _⟩
      · simp [Builtin.append_, run_underlying ht, sizeOf, typeInfo, hi, Builtin.lenOf, Builtin.firstCells]
      · simp [Builtin.append_, run_underlying ht, sizeOf, typeInfo, hi, Builtin.lenOf, Builtin.firstCells, hnc, storeCells]
    · obtain ⟨v', w', hr, h1, h2, _, h3⟩ := run_append_own_at (P := P) w base t o.type e i (.int .u8 0) 1 1 ht hi hz0 hz1 hz2 rfl (by decide) v l.length (cellsOf l) hown ad m c (cellsOf news) (by rw [cellsOf_length, hl, Nat.mul_one]) hat (cellsOf_oneCell _) (by unfold maxLen; omega) (by omega) hbase
      refine ⟨v', w', hr, ?_, h2, h3⟩
      unfold Buf
      rw [cellsOf_append, List.length_append, hl]
      exact h1
  obtain ⟨v', w', hrun, h1, h2, h3⟩ := key
  refine wpList_plain hgd fun K hK => ?_
  unfold Oper.wp execOp
  simp only [ho, resolve, invoke, builtin, Sem.run_bind, Sem.run_pure, Result.andThen_ok, List.map_toArray, List.map_cons, List.map_nil, hs, hx, hrun]
  exact hK _ _ (h v' w' h1 h2 h3)
end
end Go.Proofs.Sha
