/-
  The contract of Lex: the tokens of a text are those of the plain function 'lex'.
-/
import Derived.Test.YtemobkeogooecaaDoorLexNext
import Derived.Deep.LoopGhost
namespace Go.Proofs.YtemobkeogooecaaDoor.Lx
open Go.RowKit Go.Lib

theorem step_lt {s : Bytes} {t : Option Tok} {rest : Bytes} (h : step s = some (t, rest)) : rest.length < s.length := by
  cases s with
  | nil => simp [step] at h
  | cons c r =>
    have hd : ∀ n, 1 ≤ n → ((c :: r).drop n).length < (c :: r).length := fun n hn => by rw [List.length_drop]; simp; omega
    rw [step_cons] at h
    by_cases h1 : cBlanks.contains c = true
    · rw [if_pos h1, List.dropWhile_cons, if_pos h1] at h
      simp only [Option.some.injEq, Prod.mk.injEq] at h
      rw [← h.2]
      have := dropWhile_le (cBlanks.contains ·) r
      rw [List.length_cons]; omega
    rw [if_neg h1] at h
    by_cases h2 : c = 45 ∧ r.head? = some 45
    · rw [if_pos h2] at h
      simp only [Option.some.injEq, Prod.mk.injEq] at h
      rw [← h.2]
      unfold afterLine
      have := dropWhile_le (· != 10) (c :: r)
      rw [List.length_drop]
      simp at this ⊢; omega
    rw [if_neg h2] at h
    by_cases h3 : (c = 120 ∨ c = 88) ∧ r.head? = some 39
    · rw [if_pos h3] at h
      unfold bytesTok at h
      dsimp only at h
      split at h
      · split at h
        · split at h
          · simp only [Option.some.injEq, Prod.mk.injEq] at h
            rw [← h.2]; exact hd _ (by omega)
          · cases h
        · cases h
      · cases h
    rw [if_neg h3] at h
    have hone : cInner.contains c = true → 1 ≤ (runOf (c :: r) cInner).length := fun hc => by
      unfold runOf
      rw [List.takeWhile_cons, if_pos hc]
      simp
    by_cases h4 : cDigits.contains c = true
    · rw [if_pos h4] at h
      have hc : cInner.contains c = true := List.all_eq_true.1 inner_of_digit c (by simpa using h4)
      unfold numberTok at h
      dsimp only at h
      split at h
      · split at h
        · simp only [Option.some.injEq, Prod.mk.injEq] at h
          rw [← h.2]; exact hd _ (hone hc)
        · cases h
      · cases h
    rw [if_neg h4] at h
    by_cases h5 : cInner.contains c = true
    · rw [if_pos h5] at h
      unfold wordTok at h
      dsimp only at h
      split at h
      · simp only [Option.some.injEq, Prod.mk.injEq] at h
        rw [← h.2]; exact hd _ (hone h5)
      · split at h
        · simp only [Option.some.injEq, Prod.mk.injEq] at h
          rw [← h.2]; exact hd _ (hone h5)
        · cases h
    rw [if_neg h5] at h
    by_cases h6 : c = 39
    · rw [if_pos h6] at h
      unfold textTok at h
      split at h
      · rename_i b r' hq
        obtain ⟨u, hu⟩ := quoted_suffix _ _ _ _ (Nat.le_refl _) hq
        split at h
        · simp only [Option.some.injEq, Prod.mk.injEq] at h
          rw [← h.2]
          have := congrArg List.length hu
          simp at this ⊢; omega
        · cases h
      · cases h
    rw [if_neg h6] at h
    have hone' : ∀ {x : Option (Option Tok × Bytes)}, x = oneSign (c :: r) → x = some (t, rest) → rest.length < (c :: r).length := fun hx h => by
      rw [hx, oneSign_cons] at h
      split at h
      · simp only [Option.some.injEq, Prod.mk.injEq] at h
        rw [← h.2]; simp
      · cases h
    cases r with
    | nil => exact hone' rfl h
    | cons d r =>
      rw [signTok_two] at h
      split at h
      · simp only [Option.some.injEq, Prod.mk.injEq] at h
        rw [← h.2]; simp; omega
      · split at h
        · simp only [Option.some.injEq, Prod.mk.injEq] at h
          rw [← h.2]; simp; omega
        · exact hone' rfl h

theorem run_cons (k : Nat) (c : UInt8) (s : Bytes) : run (k + 1) (c :: s) = match step (c :: s) with | none => none | some (t, r) => (run k r).map (t.toList ++ ·) := rfl
theorem run_nil (k : Nat) : run k [] = some [] := by cases k <;> rfl
/-- More rounds give the same. -/
theorem run_more : ∀ (n : Nat) (s : Bytes) (k : Nat), s.length ≤ n → s.length ≤ k → run k s = run s.length s
  | _, [], k, _, _ => by rw [run_nil, run_nil]
  | 0, _ :: _, _, h, _ => by simp at h
  | n + 1, c :: s, k, hn, hk => by
    obtain ⟨k, rfl⟩ : ∃ m, k = m + 1 := ⟨k - 1, by simp at hk; omega⟩
    rw [List.length_cons, run_cons, run_cons]
    cases hs : step (c :: s) with
    | none => rfl
    | some x =>
      obtain ⟨t, r⟩ := x
      have hlt := step_lt hs
      simp only [List.length_cons] at hlt hn hk
      simp only
      rw [run_more n r k (by omega) (by omega), run_more n r s.length (by omega) (by omega)]
/-- All tokens of a text, whatever its length. -/
def toks (s : Bytes) : Option (List Tok) := run s.length s
theorem toks_nil : toks [] = some [] := rfl
theorem toks_step {s : Bytes} {c : UInt8} {r : Bytes} (hd : s = c :: r) : toks s = match step s with | none => none | some (t, rest) => (toks rest).map (t.toList ++ ·) := by
  subst hd
  unfold toks
  rw [List.length_cons, run_cons]
  cases hs : step (c :: r) with
  | none => rfl
  | some x =>
    obtain ⟨t, rest⟩ := x
    have hlt := step_lt hs
    simp only [List.length_cons] at hlt
    simp only
    rw [run_more rest.length rest r.length (Nat.le_refl _) (by omega)]
theorem lex_short {s : Bytes} (h : s.length ≤ 20000) : lex s = toks s := by unfold lex; rw [if_pos h]; rfl
theorem lex_long {s : Bytes} (h : ¬ s.length ≤ 20000) : lex s = none := by unfold lex; rw [if_neg h]

/-- What Lex hands back. -/
def LexEnd (w : World) (r : Option (List Tok)) (e : Ending) (w' : World) : Prop :=
  Below w.heap.size w w' ∧ match r with
  | none => e = .returned (.tuple #[.slice none 0 0, .bool false])
  | some ts => ∃ v, e = .returned (.tuple #[v, .bool true]) ∧ ts.length ≤ 20000 ∧ w'.ownsRow w.heap.size tTok 3 v ts.length (tokRow ts)

theorem lex_no {w : World} {r : Option (List Tok)} {e : Ending} {w' : World} (hr : r = none) (hb : Below w.heap.size w w') (he : e = .returned (.tuple #[.slice none 0 0, .bool false])) : LexEnd w r e w' := by
  subst hr; exact ⟨hb, he⟩

/-- What the loop of Lex holds. -/
def LexRel (s : Bytes) (w : World) (n : Nat) (wr : World) : Prop :=
  ∃ (S : ByteArray) (ts : List Tok), S.size = n ∧ toks s = (toks S.data.toList).map (ts ++ ·) ∧ St w.heap.size wr S ts ∧ Env w.heap.size wr ∧ Below w.heap.size w wr

theorem lex_start {s : ByteArray} {w : World} (hF : Facts w) (hs : s.size ≤ 20000) : LexRel s.data.toList w s.size (w.alloc (.cells #[.string s, .slice none 0 0] 34)) := by
  have hb : Below w.heap.size w (w.alloc (.cells #[.string s, .slice none 0 0] 34)) := (Below.refl _ _).alloc (Nat.le_refl _) _
  refine ⟨s, [], rfl, ?_, ⟨by simpa using hs, .slice none 0 0, Blk.new _ _ _, World.ownsRow_nil _ _ _ _⟩, (Env.of hF).below hb (Nat.le_refl _), hb⟩
  cases toks s.data.toList <;> simp
theorem lex_more {s : Bytes} {w wr w1 : World} {S : ByteArray} {ts : List Tok} {c : UInt8} {r : Bytes} (hd : S.data.toList = c :: r) (hq : toks s = (toks S.data.toList).map (ts ++ ·)) (hE : Env w.heap.size wr) (hb : Below w.heap.size w wr) {q : Bool}
    (h : Did w.heap.size wr ts (step S.data.toList) (.returned (.bool q)) w1) : (q = false → toks s = none ∧ Below w.heap.size w w1) ∧ (q = true → ∃ n, n < S.size ∧ LexRel s w n w1) := by
  obtain ⟨hb1, h⟩ := h
  have ht := toks_step hd
  cases hs : step S.data.toList with
  | none =>
    rw [hs] at h ht
    refine ⟨fun _ => ⟨by rw [hq, ht]; rfl, hb.trans hb1⟩, fun hq => ?_⟩
    subst hq; simp at h
  | some x =>
    obtain ⟨t, rest⟩ := x
    rw [hs] at h ht
    obtain ⟨he, S', hS', hst⟩ := h
    have hlt := step_lt hs
    rw [← hS', ← Lib.size_eq, ← Lib.size_eq] at hlt
    refine ⟨fun hq => ?_, fun _ => ⟨S'.size, hlt, S', ts ++ t.toList, rfl, ?_, hst, hE.below hb1 (Nat.le_refl _), hb.trans hb1⟩⟩
    · subst hq; simp at he
    · rw [hq, ht, hS']
      simp only [Option.map_map]
      congr 1
      funext x
      simp
theorem own_mono {w : World} {base base' : Nat} {e : TypeId} {size : Nat} {v : Value} {n : Nat} {xs : List Value} (h : w.ownsRow base e size v n xs) (hb : base' ≤ base) : w.ownsRow base' e size v n xs := by
  obtain ⟨h1, h2⟩ := h
  refine ⟨h1, ?_⟩
  rcases h2 with h2 | ⟨g, cap, cur, hv, hg, hh, r⟩
  · exact Or.inl h2
  · exact Or.inr ⟨g, cap, cur, hv, by omega, hh, r⟩
theorem lex_done {s : Bytes} {w wr : World} {S : ByteArray} {ts : List Tok} (hd : S.data.toList = []) (hq : toks s = (toks S.data.toList).map (ts ++ ·)) (hst : St w.heap.size wr S ts) (hb : Below w.heap.size w wr) :
    ∃ v, wr.cell? ⟨w.heap.size, 1, none⟩ = some v ∧ LexEnd w (toks s) (.returned (.tuple #[v, .bool true])) wr := by
  obtain ⟨h1, v, h2, h3⟩ := hst
  refine ⟨v, by have := h2.cell 1; simpa using this, hb, ?_⟩
  rw [hq, hd, toks_nil]
  refine ⟨v, rfl, by simp; omega, ?_⟩
  simpa using own_mono h3 (Nat.le_succ _)

set_option maxHeartbeats 1600000 in
set_option maxRecDepth 1000000 in
theorem lex_fits (s : ByteArray) (w : World) (hF : Facts w) (hs : s.size ≤ 20000) :
    Calls Tryd.prog 7 #[.string s] w (LexEnd w (toks s.data.toList)) := by
  have hst := lex_start hF hs
  clear hF
  go_enter Tryd.func7, Tryd.ntmps7
  go_wp2
  go_loopg [] s.size (fun k wr => LexRel s.data.toList w k wr)
  case atStart => exact hst
  case round =>
    obtain ⟨S, ts, hn, hq, h, hE, hb⟩ := hrel
    have HN := Lib.hid hn
    have Hq := Lib.hid hq
    clear hn hq hst
    obtain ⟨c0, f0⟩ := h.cells
    have hsz := h.size
    cases hSe : S.toList.isEmpty with
    | true =>
      have hd : S.data.toList = [] := by rw [Lib.toList_data] at hSe; simpa using hSe
      obtain ⟨v, c1, hend⟩ := lex_done hd Hq.out h hb
      clear hd
      go_wp2_with fail
      go_ret2
      exact hend
    | false =>
      obtain ⟨c, r, hd⟩ : ∃ c r, S.data.toList = c :: r := by
        rw [Lib.toList_data] at hSe
        cases hd : S.data.toList with
        | nil => rw [hd] at hSe; simp at hSe
        | cons c r => exact ⟨c, r, rfl⟩
      have Hd := Lib.hid hd
      clear hd
      go_wp2_with fail
      refine (next_any w.heap.size S ts wr h hE c r Hd.out).mono ?_
      rintro e w1 hdid
      obtain ⟨q, rfl⟩ := did_bool hdid
      have HM := Lib.hid (lex_more Hd.out Hq.out hE hb hdid)
      clear c0 f0 hdid
      cases q with
      | false =>
        go_wp2_with fail
        go_ret2
        exact lex_no (HM.out.1 (by first | trivial | rfl)).1 (HM.out.1 (by first | trivial | rfl)).2 rfl
      | true =>
        obtain ⟨n, hlt, hr⟩ := HM.out.2 rfl
        have hlt' : n < gk := by rw [← HN.out]; exact hlt
        go_wp2_with fail
        go_roundg n
        case measure => exact hlt'
        case rel => exact hr

set_option maxHeartbeats 1600000 in
set_option maxRecDepth 1000000 in
theorem lex_great (s : ByteArray) (w : World) (hs : 20000 < s.size) (hm : s.size ≤ maxLen) :
    Calls Tryd.prog 7 #[.string s] w (LexEnd w none) := by
  unfold maxLen at hm
  go_enter Tryd.func7, Tryd.ntmps7
  go_wp2
  go_ret2
  exact lex_no rfl (Below.refl _ _) rfl

theorem lex_any (s : ByteArray) (w : World) (hF : Facts w) (hm : s.size ≤ maxLen) :
    Calls Tryd.prog 7 #[.string s] w (LexEnd w (lex s.data.toList)) := by
  by_cases hs : s.size ≤ 20000
  · rw [lex_short (by rw [← Lib.size_eq]; exact hs)]
    exact lex_fits s w hF hs
  · rw [lex_long (by rw [← Lib.size_eq]; exact hs)]
    exact lex_great s w (by omega) hm
end Go.Proofs.YtemobkeogooecaaDoor.Lx
