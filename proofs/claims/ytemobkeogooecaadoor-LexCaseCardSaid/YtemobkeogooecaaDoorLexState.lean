/-
  The lexer's memory: what a block that holds a lexer holds (the text that is left, the tokens that were read); and the contract of (*lexer).put.
-/
import Derived.Test.YtemobkeogooecaaDoorLexPure
import Derived.Test.YtemobkeogooecaaDoorChecked
import Derived.WalkKit
import Derived.WalkLawsBesides
import Derived.WalkSpells
import Derived.Deep.Draws
import Derived.Lib.Hide
import Derived.Lib.Strings
import Derived.Lib.IndexBytes
namespace Go.Proofs.YtemobkeogooecaaDoor.Lx
open Go.RowKit

/-- Block g is just the cells cs of element type t, none frozen. -/
def Blk (w : World) (g : Nat) (t : TypeId) (cs : Array Value) : Prop := w.heap[g]? = some (.cells cs t (0, 0))
section
variable {w w' : World} {g : Nat} {t : TypeId} {cs : Array Value}
theorem Blk.lt (h : Blk w g t cs) : g < w.heap.size := by
  rcases Nat.lt_or_ge g w.heap.size with hlt | hge
  · exact hlt
  · unfold Blk at h; rw [Array.getElem?_eq_none hge] at h; cases h
theorem Blk.cell (h : Blk w g t cs) (i : Nat) : w.cell? ⟨g, i, none⟩ = cs[i]? := cell_of_row w g i cs t (0, 0) h
theorem Blk.frozen (h : Blk w g t cs) (i : Nat) : w.frozen? ⟨g, i, none⟩ = false := by
  unfold Blk at h
  simp [World.frozen?, h]
theorem Blk.new (w : World) (t : TypeId) (cs : Array Value) : Blk (w.alloc (.cells cs t)) w.heap.size t cs := heap_alloc_new w _
theorem Blk.alloc (h : Blk w g t cs) (o : Obj) : Blk (w.alloc o) g t cs := (Below.heap_alloc w o g h.lt).trans h
theorem Blk.set_ (h : Blk w g t cs) (i : Nat) (u : Value) : Blk (w.setCell ⟨g, i, none⟩ u) g t (cs.setIfInBounds i u) := by
  unfold Blk at h ⊢
  simp [World.setCell, Array.getElem?_modify, h]
theorem Blk.far (h : Blk w g t cs) {p : Addr} (hp : g ≠ p.block) (u : Value) : Blk (w.setCell p u) g t cs := (Below.heap_setCell w p u g hp).trans h
theorem Blk.below {B : Nat} (h : Blk w g t cs) (hb : Below B w w') (hg : g < B) : Blk w' g t cs := (hb.block g hg).trans h
theorem Blk.grown {row : Option Nat} (h : Blk w g t cs) (hb : w.grownBy w' row) (hg : some g ≠ row) : Blk w' g t cs := (hb.block g h.lt hg).trans h
end

/-- What is owned stays owned where only blocks from the heap's size on turn. -/
theorem own_below {w w' : World} {base : Nat} {e : TypeId} {size : Nat} {v : Value} {n : Nat} {xs : List Value} (h : w.ownsRow base e size v n xs) (hb : Below w.heap.size w w') : w'.ownsRow base e size v n xs := by
  obtain ⟨h1, h2⟩ := h
  refine ⟨h1, ?_⟩
  rcases h2 with h2 | ⟨g, cap, cur, hv, hg, hh, r⟩
  · exact Or.inl h2
  · refine Or.inr ⟨g, cap, cur, hv, hg, ?_, r⟩
    have hlt : g < w.heap.size := by
      rcases Nat.lt_or_ge g w.heap.size with hlt | hge
      · exact hlt
      · rw [Array.getElem?_eq_none hge] at hh; cases hh
    exact (hb.block g hlt).trans hh

/-- A token as three cells. -/
def tokCells (t : Tok) : List Value := [.string ⟨t.kind.toArray⟩, .string ⟨t.text.toArray⟩, .int .i64 t.n]
def tokRow (l : List Tok) : List Value := l.flatMap tokCells
theorem tokRow_length (l : List Tok) : (tokRow l).length = l.length * 3 := by
  induction l with
  | nil => rfl
  | cons t l ih => simp only [tokRow, List.flatMap_cons, List.length_append, List.length_cons] at ih ⊢; rw [ih]; simp [tokCells]; omega
theorem tokRow_snoc (l : List Tok) (t : Tok) : tokRow (l ++ [t]) = tokRow l ++ tokCells t := by simp [tokRow]

abbrev tTok : TypeId := 27
abbrev tToks : TypeId := 23
abbrev tLexer : TypeId := 34
theorem infoTok : (Tryd.prog.info? tTok).map (fun i => (i.zero, i.size, i.bytes)) = some (some (.agg #[.string ByteArray.empty, .string ByteArray.empty, .int .i64 0]), 3, 40) := by kernel_rfl

/-- Block b is a lexer: the text s is left, the tokens ts were read. -/
def St (b : Nat) (w : World) (s : ByteArray) (ts : List Tok) : Prop :=
  s.size + ts.length ≤ 20000 ∧ ∃ v : Value, Blk w b tLexer #[.string s, v] ∧ w.ownsRow (b + 1) tTok 3 v ts.length (tokRow ts)

theorem St.below {b : Nat} {w w' : World} {s : ByteArray} {ts : List Tok} (h : St b w s ts) (hb : Below w.heap.size w w') : St b w' s ts := by
  obtain ⟨h1, v, h2, h3⟩ := h
  exact ⟨h1, v, h2.below hb h2.lt, own_below h3 hb⟩
theorem St.lt {b : Nat} {w : World} {s : ByteArray} {ts : List Tok} (h : St b w s ts) : b < w.heap.size := by
  obtain ⟨_, v, h2, _⟩ := h
  exact h2.lt

set_option maxHeartbeats 800000 in
set_option maxRecDepth 1000000 in
theorem put_any (b : Nat) (s k t : ByteArray) (n : Int) (sz : Nat) (ts : List Tok) (w : World) (h : St b w s ts) (h0 : 1 ≤ sz) (hz : sz ≤ s.size) :
    Calls Tryd.prog 28 #[.pointer (some ⟨b, 0, none⟩), .string k, .string t, .int .i64 n, .int .i64 sz] w fun e w' => e = .returned (.tuple #[]) ∧
      St b w' (s.extract sz s.size) (ts ++ [⟨k.data.toList, t.data.toList, n⟩]) ∧ Below b w w' := by
  obtain ⟨i0, hi, hz0, hz1, hz2⟩ := info_parts infoTok
  obtain ⟨hb, v, hblk, hown⟩ := h
  have c0 := hblk.cell 0
  have c1 := hblk.cell 1
  have f0 := hblk.frozen 0
  have f1 := hblk.frozen 1
  have hlt := hblk.lt
  simp at c0 c1
  go_enter Tryd.func28, Tryd.ntmps28
  go_wp2_with (at_builtin; refine wpList_append_own _ rfl (.tmp 14) (.tmp 19) 23 rfl (b + 1) 27 i0 (.agg #[.string ByteArray.empty, .string ByteArray.empty, .int .i64 0]) 3 40 Tryd.underlying23 hi hz0 hz1 hz2 rfl (by decide) v ts.length (tokRow ts) rfl (hown.alloc _) ⟨w.heap.size, 0, none⟩ 1 1 [.string k, .string t, .int .i64 n] rfl rfl ?c1 ?c2 ?c3 ?c4 ?c5 ?_)
  case c1 =>
    intro j u hj
    match j, hj with
    | 0, hj => simp at hj; subst hj; simp [Addr.add]
    | 1, hj => simp at hj; subst hj; simp [Addr.add]
    | 2, hj => simp at hj; subst hj; simp [Addr.add]
  case c2 => intro u hu; simp at hu; rcases hu with rfl | rfl | rfl <;> rfl
  case c3 => unfold maxLen; omega
  case c4 => omega
  case c5 => simp; omega
  intro v' w1 hown' hgrow _
  have hrow : ∀ g, v.ownBlock = some g → b + 1 ≤ g := fun g hg => (hown.lt g hg).1
  have bel : Below b w w1 := ((Below.refl _ _).alloc (by omega) _).grown hgrow (by simp; omega) (fun g hg => by have := hrow g hg; omega)
  have blk1 : Blk w1 b tLexer #[.string s, v] := (hblk.alloc _).grown hgrow (fun e => by have := hrow b e.symm; omega)
  obtain ⟨g, cap', rfl⟩ : ∃ g cap', v' = .slice (some ⟨g, 0, none⟩) (ts.length + 1) cap' := by
    rcases hown'.2 with ⟨_, h⟩ | ⟨g, cap', _, h, _⟩
    · omega
    · exact ⟨g, cap', h⟩
  have k0 := blk1.cell 0
  have k1 := blk1.cell 1
  have e0 := blk1.frozen 0
  have e1 := blk1.frozen 1
  simp at k0 k1
  clear hown c0 c1 f0 f1
  go_wp2
  go_end0
  refine ⟨rfl, ⟨?_, .slice (some ⟨g, 0, none⟩) (ts.length + 1) cap', ?_, ?_⟩, ?_⟩
  · simp; omega
  · have := ((blk1.set_ 1 (.slice (some ⟨g, 0, none⟩) (ts.length + 1) cap')).set_ 0 (.string (s.extract sz s.size)))
    simpa using this
  · have := ownsRow_setCell_below (ownsRow_setCell_below hown' (a := ⟨b, 1, none⟩) (by simp) (.slice (some ⟨g, 0, none⟩) (ts.length + 1) cap')) (a := ⟨b, 0, none⟩) (by simp) (.string (s.extract sz s.size))
    rw [tokRow_snoc]
    simpa [tokCells] using this
  · exact (bel.setCell (Nat.le_refl _) _).setCell (Nat.le_refl _) _
end Go.Proofs.YtemobkeogooecaaDoor.Lx
