/-
  What the walks of the lexer ask of the library's package-level variables, and how it is carried on; what a step of the lexer leaves.
-/
import Derived.Test.YtemobkeogooecaaDoorLexRun
import Derived.Shelf.Strings.CaseAny
namespace Go.Proofs.YtemobkeogooecaaDoor.Lx
open Go.RowKit Go.Lib

/-- The library's variables as the walks read them. -/
structure Facts (w : World) : Prop where
  max : ∃ m, w.cell? ⟨0, 0, none⟩ = some (.int .i64 m)
  tabs : Lib.Utf8Tabs 1 2 w
  cases : CaseVar 3 caseA w
  errSyntax : ∃ ev, w.cell? ⟨4, 0, none⟩ = some ev ∧ (ev = .nilIface ∨ ∃ te pe, ev = .iface te pe)
  errRange : ∃ ev, w.cell? ⟨5, 0, none⟩ = some ev ∧ (ev = .nilIface ∨ ∃ te pe, ev = .iface te pe)

theorem Facts.below {w w' : World} (h : Facts w) (hb : Below w.heap.size w w') : Facts w' := by
  have k : ∀ {a : Addr} {v : Value}, w.cell? a = some v → w'.cell? a = some v := fun {a v} hc => (hb.cell (World.block_lt_of_cell? w a hc)).trans hc
  obtain ⟨⟨m, h1⟩, ⟨h2, h2'⟩, h3, ⟨e1, h4, h4'⟩, ⟨e2, h5, h5'⟩⟩ := h
  exact ⟨⟨m, k h1⟩, ⟨fun c hc => k (h2 c hc), fun i hi => ⟨k (h2' i hi).1, k (h2' i hi).2⟩⟩, CaseVar_below h3 hb, ⟨e1, k h4, h4'⟩, ⟨e2, k h5, h5'⟩⟩

/-- The variables lie below block B and hold what they held. -/
def Env (B : Nat) (w : World) : Prop := ∃ W0 : World, W0.heap.size ≤ B ∧ Facts W0 ∧ Below W0.heap.size W0 w
theorem Env.facts {B : Nat} {w : World} (h : Env B w) : Facts w := by
  obtain ⟨W0, _, h1, h2⟩ := h
  exact h1.below h2
theorem Env.below {B B' : Nat} {w w' : World} (h : Env B w) (hb : Below B' w w') (hB : B ≤ B') : Env B w' := by
  obtain ⟨W0, h0, h1, h2⟩ := h
  exact ⟨W0, h0, h1, h2.trans (hb.mono (by omega))⟩
theorem Env.mono {B B' : Nat} {w : World} (h : Env B w) (hB : B ≤ B') : Env B' w := by
  obtain ⟨W0, h0, h1, h2⟩ := h
  exact ⟨W0, by omega, h1, h2⟩
theorem Env.of {w : World} (h : Facts w) : Env w.heap.size w := ⟨w, Nat.le_refl _, h, Below.refl _ _⟩

/-- What a step of the lexer leaves: it says no; or the text that is left and the tokens. -/
def Did (b : Nat) (w : World) (ts : List Tok) (r : Option (Option Tok × Bytes)) (e : Ending) (w' : World) : Prop :=
  Below b w w' ∧ match r with
  | none => e = .returned (.bool false)
  | some (t, rest) => e = .returned (.bool true) ∧ ∃ S : ByteArray, S.data.toList = rest ∧ St b w' S (ts ++ t.toList)

theorem did_no {b : Nat} {w : World} {ts : List Tok} {r : Option (Option Tok × Bytes)} {e : Ending} {w' : World} (hr : r = none) (hb : Below b w w') (he : e = .returned (.bool false)) : Did b w ts r e w' := by
  subst hr; exact ⟨hb, he⟩
theorem did_yes {b : Nat} {w : World} {ts : List Tok} {r : Option (Option Tok × Bytes)} {e : Ending} {w' : World} {t : Option Tok} {S : ByteArray} (hr : r = some (t, S.data.toList)) (hb : Below b w w') (hs : St b w' S (ts ++ t.toList)) (he : e = .returned (.bool true)) : Did b w ts r e w' := by
  subst hr; exact ⟨hb, he, S, rfl, hs⟩

/-- The two cells of a lexer, as a walk reads them. -/
theorem St.cells {b : Nat} {w : World} {s : ByteArray} {ts : List Tok} (h : St b w s ts) : w.cell? ⟨b, 0, none⟩ = some (.string s) ∧ w.frozen? ⟨b, 0, none⟩ = false := by
  obtain ⟨_, v, h2, _⟩ := h
  exact ⟨by have := h2.cell 0; simpa using this, h2.frozen 0⟩
theorem St.size {b : Nat} {w : World} {s : ByteArray} {ts : List Tok} (h : St b w s ts) : s.size ≤ 20000 := by have := h.1; omega
/-- Another text is put into the lexer. -/
theorem St.set_ {b : Nat} {w : World} {s : ByteArray} {ts : List Tok} (h : St b w s ts) (S : ByteArray) (hS : S.size ≤ s.size) : St b (w.setCell ⟨b, 0, none⟩ (.string S)) S ts := by
  obtain ⟨h1, v, h2, h3⟩ := h
  refine ⟨by omega, v, ?_, ownsRow_setCell_below h3 (by simp) _⟩
  have := h2.set_ 0 (.string S)
  simpa using this

end Go.Proofs.YtemobkeogooecaaDoor.Lx
