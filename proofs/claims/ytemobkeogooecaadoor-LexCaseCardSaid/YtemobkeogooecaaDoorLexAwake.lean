/-
  The contract of pleachlaw18.awake: it says yes.
-/
import Derived.Test.YtemobkeogooecaaDoorLexSame
namespace Go.Proofs.YtemobkeogooecaaDoor.Lx
open Go.RowKit Go.Lib

theorem add_zero_off (g j : Nat) : (⟨g, 0, none⟩ : Addr).add j = ⟨g, j, none⟩ := by unfold Addr.add; by_cases h : j = 0 <;> simp [h]
theorem sl_of_own {w : World} {base : Nat} {v : Value} {ts : List Tok} (h : w.ownsRow base tTok 3 v ts.length (tokRow ts)) : Sl w v ts := by
  rcases h.2 with ⟨hv, h0⟩ | ⟨g, cap, cur, hv, hg, hh, r⟩
  · exact ⟨none, 0, by rw [hv, h0], fun h => by omega⟩
  · refine ⟨_, cap, hv, fun _ => ⟨g, rfl, fun j u hu => ?_⟩⟩
    have := h.cells (g := g) (by rw [hv]; rfl) j u hu
    rwa [add_zero_off] at this
theorem Sl.keep {w w' : World} {v : Value} {ts : List Tok} (h : Sl w v ts) (hk : ∀ {a : Addr} {u : Value}, w.cell? a = some u → w'.cell? a = some u) : Sl w' v ts := by
  obtain ⟨A, c, hv, hc⟩ := h
  refine ⟨A, c, hv, fun h0 => ?_⟩
  obtain ⟨g, hA, hcell⟩ := hc h0
  exact ⟨g, hA, fun j u hu => hk (hcell j u hu)⟩
theorem Sl.below {w w' : World} {v : Value} {ts : List Tok} (h : Sl w v ts) (hb : Below w.heap.size w w') : Sl w' v ts :=
  h.keep fun {a _} hc => (hb.cell (World.block_lt_of_cell? w a hc)).trans hc

/-- A call of Lex whose tokens are known. -/
theorem lex_some (s : ByteArray) (w : World) (ts : List Tok) (hF : Facts w) (hm : s.size ≤ maxLen) (h : lex s.data.toList = some ts) :
    Calls Tryd.prog 7 #[.string s] w fun e w' => ∃ v, e = .returned (.tuple #[v, .bool true]) ∧ Sl w' v ts ∧ ts.length ≤ 20000 ∧ Below w.heap.size w w' := by
  refine (lex_any s w hF hm).mono ?_
  rintro e w' ⟨hb, he⟩
  rw [h] at he
  obtain ⟨v, he, hl, hown⟩ := he
  exact ⟨v, he, sl_of_own hown, hl, hb⟩
theorem lex_none (s : ByteArray) (w : World) (hF : Facts w) (hm : s.size ≤ maxLen) (h : lex s.data.toList = none) :
    Calls Tryd.prog 7 #[.string s] w fun e w' => e = .returned (.tuple #[.slice none 0 0, .bool false]) ∧ Below w.heap.size w w' := by
  refine (lex_any s w hF hm).mono ?_
  rintro e w' ⟨hb, he⟩
  rw [h] at he
  exact ⟨he, hb⟩

def awake1 : Bytes := [83, 101, 108, 101, 99, 116, 32, 97, 49, 32, 120, 39, 48, 102, 39]
def awake2 : Bytes := [105, 116, 39, 115]
theorem awake_one : lex awake1 = some [⟨kWord, [83, 69, 76, 69, 67, 84], 0⟩, ⟨kName, [97, 49], 0⟩, ⟨kBytes, [15], 0⟩] := by decide +kernel
theorem awake_two : lex awake2 = none := by decide +kernel

set_option maxHeartbeats 1600000 in
set_option maxRecDepth 1000000 in
theorem awake_any (w : World) (hF : Facts w) : Calls Tryd.prog 6 #[] w fun e w' => e = .returned (.bool true) ∧ Below w.heap.size w w' := by
  have hm := tokGuard
  have heq := run_tok_eq
  go_enter Tryd.func6, Tryd.ntmps6
  go_wp2_with fail
  refine (lex_some ⟨awake1.toArray⟩ _ _ hF (by unfold maxLen; decide) awake_one).mono ?_
  rintro e w1 ⟨v, rfl, ⟨A, cap, rfl, hs⟩, _, hb1⟩
  obtain ⟨g, rfl, hcell⟩ := hs (by decide)
  have hF1 := hF.below hb1
  go_wp2_with fail
  refine (lex_none ⟨awake2.toArray⟩ _ hF1 (by unfold maxLen; decide) awake_two).mono ?_
  rintro e w2 ⟨rfl, hb2⟩
  have k : ∀ j u, (tokRow [⟨kWord, [83, 69, 76, 69, 67, 84], 0⟩, ⟨kName, [97, 49], 0⟩, ⟨kBytes, [15], 0⟩])[j]? = some u → w2.cell? ⟨g, j, none⟩ = some u := fun j u hu => (hb2.cell (World.block_lt_of_cell? w1 _ (hcell j u hu))).trans (hcell j u hu)
  have x1 := k 1 _ rfl
  have x6 := k 6 _ rfl
  have x7 := k 7 _ rfl
  have x8 := k 8 _ rfl
  clear k hcell hs
  go_wp2_with fail
  go_ret
  exact ⟨congrArg (fun b => Ending.returned (.bool b)) (decide_eq_true ⟨rfl, rfl, rfl⟩), hb1.trans (hb2.mono hb1.size)⟩
end Go.Proofs.YtemobkeogooecaaDoor.Lx
