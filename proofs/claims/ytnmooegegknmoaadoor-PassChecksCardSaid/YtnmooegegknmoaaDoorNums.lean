/-
  A slice of numbers that the call itself makes and appends to. Over any program.
-/
import Derived.WalkKit
import Derived.WalkSpells
import Derived.Laws.AppendOwnNone
import Derived.Maps.AppendAt
namespace Go.Proofs.Nums
open Go.RowKit

def cellsN (k : IntKind) (l : List Nat) : List Value := l.map fun x => Value.int k ((x : Nat) : Int)
theorem cellsN_length (k : IntKind) (l : List Nat) : (cellsN k l).length = l.length := by simp [cellsN]
theorem cellsN_one (k : IntKind) (l : List Nat) : ∀ u ∈ cellsN k l, u.oneCell' = true := by
  intro u hu
  obtain ⟨c, _, rfl⟩ := List.mem_map.1 hu
  rfl
/-- The value v is a slice of the call's own that holds these numbers. -/
def NumRow (w : World) (base : Nat) (e : TypeId) (k : IntKind) (v : Value) (l : List Nat) : Prop := w.ownsRow base e 1 v l.length (cellsN k l)
section
variable {w w' : World} {base : Nat} {e : TypeId} {k : IntKind} {v : Value} {l : List Nat}
theorem NumRow.nil (w : World) (base : Nat) (e : TypeId) (k : IntKind) : NumRow w base e k (.slice none 0 0) [] := World.ownsRow_nil w base e 1
theorem NumRow.alloc (h : NumRow w base e k v l) (o : Obj) : NumRow (w.alloc o) base e k v l := World.ownsRow.alloc h o
theorem NumRow.below (h : NumRow w base e k v l) (hb : Below w.heap.size w w') : NumRow w' base e k v l := by
  refine World.ownsRow.kept (row := none) h ⟨hb.os, hb.tape, hb.output, hb.size, fun k hk _ => hb.block k hk⟩ ?_
  cases hv : v.ownBlock <;> simp
theorem NumRow.len (h : NumRow w base e k v l) : ∃ a cap, v = .slice a l.length cap := by
  rcases h.2 with ⟨rfl, hn⟩ | ⟨g, cap, cur, rfl, _⟩
  · exact ⟨none, 0, by rw [hn]⟩
  · exact ⟨_, cap, rfl⟩
theorem NumRow.lt (h : NumRow w base e k v l) : ∀ g, v.ownBlock = some g → base ≤ g ∧ g < w.heap.size := World.ownsRow.lt h
theorem NumRow.open_ {A : Option Addr} {n c : Nat} (h : NumRow w base e k (.slice A n c) l) (h0 : 0 < l.length) :
    ∃ g, A = some ⟨g, 0, none⟩ ∧ base ≤ g ∧ g < w.heap.size ∧ n ≤ c ∧ ∀ i, i < l.length → w.cell? ⟨g, i, none⟩ = some (.int k ((l.getD i 0 : Nat) : Int)) := by
  have hc := fun g => World.ownsRow.cells (g := g) h
  have hlt := World.ownsRow.lt h
  rcases h.2 with ⟨hv, hn⟩ | ⟨g, cap, cur, hv, hb, hg, hnc, _⟩
  · omega
  · injection hv with hA hn' hc'
    subst hA
    refine ⟨g, rfl, hb, (hlt g rfl).2, by omega, fun i hi => ?_⟩
    have := hc g rfl i (.int k ((l.getD i 0 : Nat) : Int)) (by rw [cellsN, List.getElem?_map, List.getD_eq_getElem?_getD, List.getElem?_eq_getElem hi]; rfl)
    have ha : (⟨g, 0, none⟩ : Addr).add i = ⟨g, i, none⟩ := by unfold Addr.add; split <;> simp_all
    rw [ha] at this
    exact this
theorem NumRow.free {A : Option Addr} {n c g : Nat} (h : NumRow w base e k (.slice A n c) l) (hA : A = some ⟨g, 0, none⟩) : ∀ i, w.frozen? ⟨g, i, none⟩ = false := by
  subst hA
  rcases h.2 with ⟨hv, _⟩ | ⟨g', cap, cur, hv, hb, hg, _⟩
  · cases hv
  · injection hv with hA
    injection hA with hA
    injection hA with hA
    subst hA
    intro i
    simp [World.frozen?, hg]
theorem grown_below {w0 w1 w2 : World} {B : Nat} (hb : Below B w0 w1) (hB : B ≤ w1.heap.size) (hv : NumRow w1 B e k v l) (hg : w1.grownBy w2 v.ownBlock) : Below B w0 w2 :=
  hb.grown hg hB (fun g hk => (World.ownsRow.lt hv g hk).1)
theorem one_new (w : World) (k : IntKind) (x : Nat) (n : Int) (hn : n = (x : Int)) (T : TypeId) : ∀ j u, (cellsN k [x])[j]? = some u → (w.alloc (.cells #[.int k n] T)).cell? ((⟨w.heap.size, 0, none⟩ : Addr).add j) = some u := by
  subst hn
  intro j u hu
  match j, hu with
  | 0, hu =>
    simp [cellsN] at hu
    subst hu
    exact (cell_one_new _ _ _) 0 _ rfl
end
section
variable {P : Program}
theorem wpList_append {w : World} {ops : Array Oper} {rest : List Oper} {o : Oper} {a : Act} {Q : Exit → Act → World → Prop} (hgd : o.guard = none) (s x : Operand) (t : TypeId)
    (ho : o.op = .call { callee := .builtin .append, args := #[s, x], argTypes := #[t, t] })
    {e : TypeId} (ht : P.underlying t = some (.slice e)) (k : IntKind) (by_ : Nat) (hby : by_ ≤ 8) (hi5 : (P.info? e).map (fun i => (i.zero, i.size, i.bytes)) = some (some (.int k 0), 1, by_))
    {base : Nat} {v : Value} {l : List Nat} (hs : a.eval s = v) (hown : NumRow w base e k v l)
    (ad : Addr) (m c : Nat) (news : List Nat) (hx : a.eval x = .slice (some ad) m c) (hl : news.length = m) (hnews : ∀ j u, (cellsN k news)[j]? = some u → w.cell? (ad.add j) = some u)
    (hlen : l.length + m ≤ 1073741824) (hbase : base ≤ w.heap.size)
    (h : ∀ v' w', NumRow w' base e k v' (l ++ news) → w.grownBy w' v.ownBlock → wpList P ops Q rest (a.put o.dst v') w') : wpList P ops Q (o :: rest) a w := by
  obtain ⟨i, hi, hz0, hz1, hz2⟩ := info_parts hi5
  have hbb : (l.length + m) * by_ ≤ (l.length + m) * 8 := Nat.mul_le_mul_left _ hby
  refine wpList_append_own w hgd s x t ho base e i (.int k 0) 1 by_ ht hi hz0 hz1 hz2 rfl (by decide) v l.length (cellsN k l) hs hown ad m c (cellsN k news) hx (by rw [cellsN_length, hl, Nat.mul_one]) hnews (cellsN_one _ _)
    (by unfold maxLen; omega) (by omega) hbase fun v' w' h1 h2 _ => h v' w' ?_ h2
  unfold NumRow
  rw [List.length_append, hl, show cellsN k (l ++ news) = cellsN k l ++ cellsN k news by simp [cellsN]]
  exact h1
end
end Go.Proofs.Nums
