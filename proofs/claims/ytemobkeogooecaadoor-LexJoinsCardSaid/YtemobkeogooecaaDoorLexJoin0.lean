/-
  A plain law of the lexer: two texts with a byte 10 between have the tokens of both.
-/
import Derived.Test.YtemobkeogooecaaDoorLexLex
namespace Go.Proofs.YtemobkeogooecaaDoor.Lx
open Go.Lib

theorem head_join (r t : Bytes) {x : UInt8} (hx : x ≠ 10) : (r ++ 10 :: t).head? = some x ↔ r.head? = some x := by
  cases r with
  | nil => simp [Ne.symm hx]
  | cons a r => simp
theorem dropWhile_app (p : UInt8 → Bool) (s u : Bytes) : (s ++ u).dropWhile p = if s.dropWhile p = [] then u.dropWhile p else s.dropWhile p ++ u := by
  induction s with
  | nil => simp
  | cons a s ih =>
    by_cases h : p a = true
    · simp only [List.cons_append, List.dropWhile_cons, h, if_true]; exact ih
    · simp [h]
theorem takeWhile_app (p : UInt8 → Bool) (s : Bytes) (c : UInt8) (t : Bytes) (hc : p c = false) : (s ++ c :: t).takeWhile p = s.takeWhile p := by
  induction s with
  | nil => simp [hc]
  | cons a s ih =>
    by_cases h : p a = true
    · simp [h, ih]
    · simp [h]
theorem takeWhile_quote (s u : Bytes) (h : s.contains 39 = true) : (s ++ u).takeWhile (· != 39) = s.takeWhile (· != 39) := by
  induction s with
  | nil => simp at h
  | cons a s ih =>
    by_cases ha : a = 39
    · subst ha; simp
    · have h3 : (39 == a) = false := by simp [Ne.symm ha]
      rw [List.contains_cons, h3, Bool.false_or] at h
      have h2 : (a != 39) = true := by simp [ha]
      simp [h2, ih h]
theorem run_join (s t : Bytes) : runOf (s ++ 10 :: t) cInner = runOf s cInner := takeWhile_app _ s 10 t (by decide)
theorem drop_join {s u : Bytes} {n : Nat} (h : n ≤ s.length) : (s ++ u).drop n = s.drop n ++ u := by
  rw [List.drop_append, Nat.sub_eq_zero_of_le h, List.drop_zero]
theorem quoted_join (t : Bytes) : ∀ (n : Nat) (l A r : Bytes), l.length ≤ n → quoted l = some (A, r) → quoted (l ++ 10 :: t) = some (A, r ++ 10 :: t)
  | _, [], A, r, _, h => by simp [quoted] at h
  | 0, a :: l, A, r, hn, _ => by simp at hn
  | n + 1, a :: l, A, r, hn, h => by
    rw [quoted_cons] at h
    rw [List.cons_append, quoted_cons]
    by_cases ha : a = 39
    · rw [if_pos ha] at h ⊢
      match l, h with
      | [], h =>
        simp only [Option.some.injEq, Prod.mk.injEq] at h
        obtain ⟨rfl, rfl⟩ := h
        rfl
      | d :: l', h =>
        by_cases hd : d = 39
        · simp only [hd, if_true, List.cons_append] at h ⊢
          obtain ⟨⟨A', r'⟩, h1, h2⟩ := Option.map_eq_some_iff.1 h
          simp only [Prod.mk.injEq] at h2
          rw [quoted_join t n l' A' r' (by simp at hn; omega) h1]
          simp [h2.1, h2.2]
        · simp only [hd, if_false, List.cons_append, Option.some.injEq, Prod.mk.injEq] at h ⊢
          exact ⟨h.1, by rw [← h.2]; rfl⟩
    · rw [if_neg ha] at h ⊢
      obtain ⟨⟨A', r'⟩, h1, h2⟩ := Option.map_eq_some_iff.1 h
      simp only [Prod.mk.injEq] at h2
      rw [quoted_join t n l A' r' (by simp at hn; omega) h1]
      simp [h2.1, h2.2]

/-- A step of the first text is a step of both; at the end of the first text what stands between may reach into the second one. -/
theorem step_join {s t : Bytes} {k : Option Tok} {rest : Bytes} (h : step s = some (k, rest)) :
    ∃ rest', step (s ++ 10 :: t) = some (k, rest') ∧ (rest' = rest ++ 10 :: t ∨ (rest = [] ∧ (rest' = (10 :: t).dropWhile (cBlanks.contains ·) ∨ rest' = t))) := by
  cases s with
  | nil => simp [step] at h
  | cons c r =>
    rw [step_cons] at h
    rw [List.cons_append, step_cons]
    by_cases h1 : cBlanks.contains c = true
    · rw [if_pos h1] at h ⊢
      simp only [Option.some.injEq, Prod.mk.injEq] at h
      obtain ⟨rfl, rfl⟩ := h
      refine ⟨_, rfl, ?_⟩
      rw [← List.cons_append, dropWhile_app]
      split
      · rename_i he; exact Or.inr ⟨he, Or.inl rfl⟩
      · exact Or.inl rfl
    rw [if_neg h1] at h ⊢
    by_cases h2 : c = 45 ∧ r.head? = some 45
    · rw [if_pos h2] at h
      rw [if_pos ⟨h2.1, (head_join r t (by decide)).2 h2.2⟩]
      simp only [Option.some.injEq, Prod.mk.injEq] at h
      obtain ⟨rfl, rfl⟩ := h
      refine ⟨_, rfl, ?_⟩
      unfold afterLine
      rw [← List.cons_append, dropWhile_app]
      split
      · rename_i he
        rw [he]
        exact Or.inr ⟨rfl, Or.inr (by simp)⟩
      · rename_i he
        refine Or.inl ?_
        cases hd : (c :: r).dropWhile (· != 10) with
        | nil => exact absurd hd he
        | cons a l => rfl
    rw [if_neg h2] at h
    rw [if_neg (fun h' => h2 ⟨h'.1, (head_join r t (by decide)).1 h'.2⟩)]
    by_cases h3 : (c = 120 ∨ c = 88) ∧ r.head? = some 39
    · rw [if_pos h3] at h
      rw [if_pos ⟨h3.1, (head_join r t (by decide)).2 h3.2⟩]
      refine ⟨rest ++ 10 :: t, ?_, Or.inl rfl⟩
      have hl : 2 ≤ (c :: r).length := by
        cases r with
        | nil => simp at h3
        | cons a r => simp
      unfold bytesTok upToQuote at h ⊢
      dsimp only at h ⊢
      rw [← List.cons_append, drop_join hl]
      split at h
      · rename_i hq
        have hc : ((c :: r).drop 2 ++ 10 :: t).contains 39 = true := by
          simp only [List.contains_eq_mem, List.mem_append, decide_eq_true_eq] at hq ⊢
          exact Or.inl hq
        have hroom := takeWhile_lt hq
        rw [List.length_drop] at hroom
        rw [if_pos hc, takeWhile_quote _ _ hq]
        split at h
        · split at h
          · rename_i b hb hlen
            rw [if_pos hlen]
            simp only [Option.some.injEq, Prod.mk.injEq] at h
            rw [drop_join (by omega), h.1, h.2]
          · cases h
        · cases h
      · cases h
    rw [if_neg h3] at h
    rw [if_neg (fun h' => h3 ⟨h'.1, (head_join r t (by decide)).1 h'.2⟩)]
    have hrun := run_join (c :: r) t
    have hrl := run_le (c :: r) cInner
    by_cases h4 : cDigits.contains c = true
    · rw [if_pos h4] at h ⊢
      refine ⟨rest ++ 10 :: t, ?_, Or.inl rfl⟩
      have e : numberTok ((c :: r) ++ 10 :: t) = (numberTok (c :: r)).map (fun x => (x.1, x.2 ++ 10 :: t)) := by
        unfold numberTok
        dsimp only
        rw [hrun, drop_join hrl]
        rcases Lib.parseIntB 64 (runOf (c :: r) cInner) with v | _ | _
        · dsimp only
          split <;> rfl
        · rfl
        · rfl
      show numberTok ((c :: r) ++ 10 :: t) = _
      rw [e, h]; rfl
    rw [if_neg h4] at h ⊢
    by_cases h5 : cInner.contains c = true
    · rw [if_pos h5] at h ⊢
      refine ⟨rest ++ 10 :: t, ?_, Or.inl rfl⟩
      have e : wordTok ((c :: r) ++ 10 :: t) = (wordTok (c :: r)).map (fun x => (x.1, x.2 ++ 10 :: t)) := by
        unfold wordTok
        dsimp only
        rw [hrun, drop_join hrl]
        split
        · rfl
        · split <;> rfl
      show wordTok ((c :: r) ++ 10 :: t) = _
      rw [e, h]; rfl
    rw [if_neg h5] at h ⊢
    by_cases h6 : c = 39
    · rw [if_pos h6] at h ⊢
      refine ⟨rest ++ 10 :: t, ?_, Or.inl rfl⟩
      unfold textTok at h ⊢
      have e1 : (c :: r).drop 1 = r := rfl
      have e2 : (c :: (r ++ 10 :: t)).drop 1 = r ++ 10 :: t := rfl
      rw [e1] at h
      rw [e2]
      cases hq : quoted r with
      | none => rw [hq] at h; cases h
      | some x =>
        obtain ⟨A, r'⟩ := x
        rw [hq] at h
        rw [quoted_join t _ _ _ _ (Nat.le_refl _) hq]
        dsimp only at h ⊢
        split at h
        · rename_i hl
          rw [if_pos hl]
          simp only [Option.some.injEq, Prod.mk.injEq] at h
          rw [h.1, h.2]
        · cases h
    rw [if_neg h6] at h ⊢
    refine ⟨rest ++ 10 :: t, ?_, Or.inl rfl⟩
    have hone : ∀ {u : Bytes}, oneSign (c :: u) = some (k, rest) → oneSign (c :: (u ++ 10 :: t)) = some (k, rest ++ 10 :: t) := fun h => by
      rw [oneSign_cons] at h ⊢
      split at h
      · rename_i hs
        rw [if_pos hs]
        simp only [Option.some.injEq, Prod.mk.injEq] at h
        rw [h.1, h.2]
      · cases h
    cases r with
    | nil =>
      have e : signTok (c :: ([] ++ 10 :: t)) = oneSign (c :: 10 :: t) := by
        show signTok (c :: 10 :: t) = _
        rw [signTok_two, if_neg (fun h => by cases h.2), if_neg (by rintro (h | h | h) <;> cases h.2)]
      rw [e]
      exact hone (u := []) h
    | cons d r =>
      rw [signTok_two] at h
      rw [List.cons_append, signTok_two]
      split at h
      · rename_i hs
        rw [if_pos hs]
        simp only [Option.some.injEq, Prod.mk.injEq] at h
        rw [h.1, h.2]
      · rename_i hs
        rw [if_neg hs]
        split at h
        · rename_i hs2
          rw [if_pos hs2]
          simp only [Option.some.injEq, Prod.mk.injEq] at h
          rw [h.1, h.2]
        · rename_i hs2
          rw [if_neg hs2]
          exact hone h

theorem toks_blank (t : Bytes) : toks (t.dropWhile (cBlanks.contains ·)) = toks t := by
  cases t with
  | nil => rfl
  | cons c r =>
    by_cases h : cBlanks.contains c = true
    · rw [toks_step (s := c :: r) rfl, step_cons, if_pos h]
      dsimp only
      cases toks ((c :: r).dropWhile (cBlanks.contains ·)) <;> simp
    · rw [List.dropWhile_cons, if_neg h]
theorem toks_ten (t : Bytes) : toks (10 :: t) = toks t := by
  rw [← toks_blank (10 :: t), ← toks_blank t]
  rfl

/-- Two texts with a byte 10 between have the tokens of both. -/
theorem toks_join (s t : Bytes) (a b : List Tok) (ha : toks s = some a) (hb : toks t = some b) : toks (s ++ [10] ++ t) = some (a ++ b) := by
  have key : ∀ (n : Nat) (s : Bytes) (a : List Tok), s.length ≤ n → toks s = some a → toks (s ++ 10 :: t) = some (a ++ b) := by
    intro n
    induction n with
    | zero =>
      intro s a hn ha
      have : s = [] := List.eq_nil_of_length_eq_zero (by omega)
      subst this
      rw [toks_nil] at ha
      cases ha
      rw [List.nil_append, toks_ten, hb]; rfl
    | succ n ih =>
      intro s a hn ha
      cases s with
      | nil =>
        rw [toks_nil] at ha
        cases ha
        rw [List.nil_append, toks_ten, hb]; rfl
      | cons c r =>
        rw [toks_step (s := c :: r) rfl] at ha
        cases hs : step (c :: r) with
        | none => rw [hs] at ha; cases ha
        | some x =>
          obtain ⟨k, rest⟩ := x
          rw [hs] at ha
          dsimp only at ha
          obtain ⟨a', ha', rfl⟩ := Option.map_eq_some_iff.1 ha
          have hlt := step_lt hs
          obtain ⟨rest', hs', hr⟩ := step_join (t := t) hs
          rw [toks_step (s := (c :: r) ++ 10 :: t) (c := c) (r := r ++ 10 :: t) rfl, hs']
          dsimp only
          have hrest : toks rest' = some (a' ++ b) := by
            rcases hr with rfl | ⟨rfl, rfl | rfl⟩
            · exact ih rest a' (by simp at hn hlt; omega) ha'
            · rw [toks_nil] at ha'; cases ha'
              rw [toks_blank, toks_ten, hb]; rfl
            · rw [toks_nil] at ha'; cases ha'
              rw [hb]; rfl
          rw [hrest]
          simp
  rw [List.append_assoc]
  exact key s.length s a (Nat.le_refl _) ha
end Go.Proofs.YtemobkeogooecaaDoor.Lx
