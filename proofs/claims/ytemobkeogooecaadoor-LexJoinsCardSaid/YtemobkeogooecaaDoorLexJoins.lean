/-
  The walk of pleachlaw18.LexJoins.
-/
import Derived.Test.YtemobkeogooecaaDoorLexTexts
import Derived.Test.YtemobkeogooecaaDoorLexJoin0
import Derived.Laws.AppendOwnNone
import Derived.Maps.AppendAt
namespace Go.Proofs.YtemobkeogooecaaDoor.Lx
open Go.RowKit Go.Lib

theorem tokRow_app (a b : List Tok) : tokRow (a ++ b) = tokRow a ++ tokRow b := by simp [tokRow]
theorem tokRow_one (l : List Tok) : ∀ u ∈ tokRow l, u.oneCell' = true := by
  intro u hu
  unfold tokRow at hu
  obtain ⟨t, _, ht⟩ := List.mem_flatMap.1 hu
  simp [tokCells] at ht
  rcases ht with rfl | rfl | rfl <;> rfl

theorem run_append_sl (w : World) (base : Nat) (ty : TypeId) (v x : Value) (ts us : List Tok) (hown : w.ownsRow base tTok 3 v ts.length (tokRow ts)) (hx : Sl w x us) (hl : ts.length + us.length ≤ 60000) (hbase : base ≤ w.heap.size) :
    ∃ v' w', (Builtin.append_ #[23, 23] ty #[v, x]).run Tryd.prog w = .ok v' w' ∧ w'.ownsRow base tTok 3 v' (ts ++ us).length (tokRow (ts ++ us)) ∧ w.grownBy w' v.ownBlock ∧ (v'.ownBlock = v.ownBlock ∨ v'.ownBlock = some w.heap.size) := by
  obtain ⟨i0, hi, hz0, hz1, hz2⟩ := info_parts infoTok
  obtain ⟨A, c, rfl, hA⟩ := hx
  cases A with
  | none =>
    have hu : us = [] := by
      cases us with
      | nil => rfl
      | cons t us => obtain ⟨g, hg, _⟩ := hA (by simp); cases hg
    subst hu
    refine ⟨v, w, ?_, by simpa using hown, ⟨rfl, rfl, rfl, Nat.le_refl _, fun _ _ _ => rfl⟩, Or.inl rfl⟩
    rcases hown.2 with ⟨rfl, h0⟩ | ⟨g, cap, cur, rfl, _, _, hnc, _⟩
    · simp [Builtin.append_, run_underlying Tryd.underlying23, sizeOf, typeInfo, hi, Builtin.lenOf, Builtin.firstCells]
    · simp [Builtin.append_, run_underlying Tryd.underlying23, sizeOf, typeInfo, hi, Builtin.lenOf, Builtin.firstCells, hnc, storeCells]
  | some ad =>
    have hc : ∀ j u, (tokRow us)[j]? = some u → w.cell? (ad.add j) = some u := fun j u hu => by
      have h0 : 0 < us.length := by
        cases us with
        | nil => simp [tokRow] at hu
        | cons t us => simp
      obtain ⟨g, hg, hc⟩ := hA h0
      cases hg
      rw [add_zero_off]
      exact hc j u hu
    obtain ⟨v', w', h1, h2, h3, _, h4⟩ := run_append_own_at (P := Tryd.prog) w base 23 ty tTok i0 (.agg #[.string ByteArray.empty, .string ByteArray.empty, .int .i64 0]) 3 40 Tryd.underlying23 hi hz0 hz1 hz2 rfl (by decide) v ts.length (tokRow ts) hown
      ad us.length c (tokRow us) (tokRow_length us) hc (tokRow_one us) (by unfold maxLen; omega) (by omega) hbase
    exact ⟨v', w', h1, by rw [tokRow_app, List.length_append]; exact h2, h3, h4⟩

theorem wpList_append_sl {ops : Array Oper} {rest : List Oper} {o : Oper} {a : Act} {Q : Exit → Act → World → Prop} {w : World} (hw : Region.wanted o (yielded ops a.tmps) = true) (s x : Operand)
    (ho : o.op = .call { callee := .builtin .append, args := #[s, x], argTypes := #[23, 23] }) (base : Nat) (v xv : Value) (ts us : List Tok) (hs : a.eval s = v) (hx : a.eval x = xv)
    (hown : w.ownsRow base tTok 3 v ts.length (tokRow ts)) (hsl : Sl w xv us) (hl : ts.length + us.length ≤ 60000) (hbase : base ≤ w.heap.size)
    (h : ∀ v' w', w'.ownsRow base tTok 3 v' (ts ++ us).length (tokRow (ts ++ us)) → w.grownBy w' v.ownBlock → (v'.ownBlock = v.ownBlock ∨ v'.ownBlock = some w.heap.size) → wpList Tryd.prog ops Q rest (a.put o.dst v') w') :
    wpList Tryd.prog ops Q (o :: rest) a w :=
  wpList_step fun K hK => by
    rw [if_pos hw]
    obtain ⟨v', w', hrun, h2, h3, h4⟩ := run_append_sl w base o.type v xv ts us hown hsl hl hbase
    unfold Oper.wp execOp
    simp only [ho, resolve, invoke, builtin, Sem.run_bind, Sem.run_pure, Result.andThen_ok, List.map_toArray, List.map_cons, List.map_nil, hs, hx, hrun]
    exact hK _ _ (h v' w' h2 h3 h4)

theorem join_b1 {w4 w5 : World} (hg : (w4.alloc (.cells #[] tTok)).grownBy w5 (Value.slice (some ⟨w4.heap.size, 0, none⟩) 0 0).ownBlock) : Below w4.heap.size w4 w5 :=
  ((Below.refl _ _).alloc (Nat.le_refl _) _).grown hg (by simp) (fun k hk => by simp [Value.ownBlock] at hk; omega)
theorem join_b2 {w4 w5 w6 : World} {v5 : Value} (h1 : Below w4.heap.size w4 w5) (hg : w5.grownBy w6 v5.ownBlock) (ho : v5.ownBlock = (Value.slice (some ⟨w4.heap.size, 0, none⟩) 0 0).ownBlock ∨ v5.ownBlock = some (w4.alloc (.cells #[] tTok)).heap.size) : Below w4.heap.size w4 w6 :=
  h1.grown hg h1.size (fun k hk => by
    rcases ho with ho | ho
    · rw [ho] at hk; simp [Value.ownBlock] at hk; omega
    · rw [ho] at hk; simp at hk; omega)
theorem lexEnd_shape {w w' : World} {r : Option (List Tok)} {e : Ending} (h : LexEnd w r e w') : ∃ (v : Value) (q : Bool), e = .returned (.tuple #[v, .bool q]) ∧ Below w.heap.size w w' := by
  obtain ⟨hb, h⟩ := h
  cases r with
  | none => exact ⟨_, _, h, hb⟩
  | some ts => obtain ⟨v, h, _⟩ := h; exact ⟨_, _, h, hb⟩

set_option maxHeartbeats 3200000 in
set_option maxRecDepth 1000000 in
theorem joins_yes (s t : ByteArray) (a b : List Tok) (w : World) (hF : Facts w) (hs : s.size ≤ 1500) (ht : t.size ≤ 1500) (ha : lex s.data.toList = some a) (hb : lex t.data.toList = some b) :
    Calls Tryd.prog 4 #[.string s, .string t] w fun e w' => e = .returned (.bool true) ∧ Below w.heap.size w w' := by
  have HA := Lib.hid ha
  have HB := Lib.hid hb
  have HC : Hid (lex (s ++ ⟨#[10]⟩ ++ t).data.toList = some (a ++ b)) := by
    rw [app_data, app_data]
    rw [lex_short (by rw [← Lib.size_eq]; omega)] at ha hb
    rw [lex_short (by simp; omega)]
    exact toks_join _ _ _ _ ha hb
  have hsz : (s ++ ⟨#[10]⟩ ++ t).size ≤ maxLen := by
    have e1 : (⟨#[10]⟩ : ByteArray).size = 1 := rfl
    unfold maxLen; rw [ByteArray.size_append, ByteArray.size_append, e1]; omega
  clear ha hb
  go_enter Tryd.func4, Tryd.ntmps4
  go_wp2_with fail
  refine (awake_any _ hF).mono ?_
  rintro e w1 ⟨rfl, hb1⟩
  have hF1 := hF.below hb1
  go_wp2_with fail
  refine (lex_some _ _ _ hF1 (by unfold maxLen; omega) HA.out).mono ?_
  rintro e w2 ⟨va, rfl, hsa, hla, hb2⟩
  have hF2 := hF1.below hb2
  go_wp2_with fail
  refine (lex_some _ _ _ hF2 (by unfold maxLen; omega) HB.out).mono ?_
  rintro e w3 ⟨vb, rfl, hsb, hlb, hb3⟩
  have hF3 := hF2.below hb3
  go_wp2_with fail
  refine (lex_some _ _ _ hF3 hsz HC.out).mono ?_
  rintro e w4 ⟨vc, rfl, hsc, hlc, hb4⟩
  have hsa4 := ((hsa.below hb3).below hb4)
  have hsb4 := hsb.below hb4
  clear hsa hsb
  have hown0 : (w4.alloc (.cells #[] tTok)).ownsRow w4.heap.size tTok 3 (.slice (some ⟨w4.heap.size, 0, none⟩) ([] : List Tok).length 0) ([] : List Tok).length (tokRow []) := World.ownsRow_lit w4 #[] 0 (Nat.le_refl _) (Nat.zero_le _) rfl
  have hsa5 : Sl (w4.alloc (.cells #[] tTok)) va a := hsa4.below ((Below.refl _ _).alloc (Nat.le_refl _) _)
  go_wp2_with (first
    | (at_builtin; refine wpList_append_sl rfl (.tmp 48) (.tmp 49) rfl w4.heap.size (.slice (some ⟨w4.heap.size, 0, none⟩) 0 0) va [] a rfl rfl hown0 hsa5 (by simp; omega) (by simp) ?_; intro v5 w5 hown5 hg5 ho5)
    | (at_builtin; refine wpList_append_sl rfl (.tmp 50) (.tmp 51) rfl w4.heap.size v5 vb ([] ++ a) b rfl rfl hown5 (hsb4.below (join_b1 hg5)) (by simp; omega) (join_b1 hg5).size ?_; intro v6 w6 hown6 hg6 ho6)
    | (go_at_call 8; refine (same_one vc v6 (a ++ b) ([] ++ a ++ b) _ (hsc.below (join_b2 (join_b1 hg5) hg6 ho5)) (sl_of_own hown6) (by simp; omega) (by simp; omega)).mono ?_; rintro e w7 ⟨rfl, q7, rfl⟩))
  have hbel : Below w.heap.size w (w6.drewN q7) := hb1.trans ((hb2.trans (((hb3.trans ((hb4.trans ((below_drewN (join_b2 (join_b1 hg5) hg6 ho5) q7).mono hb4.size)).mono hb3.size))).mono hb2.size)).mono hb1.size)
  go_ret
  exact ⟨by simp, hbel⟩

set_option maxHeartbeats 1600000 in
set_option maxRecDepth 1000000 in
theorem joins_long (s t : ByteArray) (w : World) (hF : Facts w) (hs : 1500 < s.size ∨ 1500 < t.size) (hm : s.size ≤ maxLen) (hm' : t.size ≤ maxLen) :
    Calls Tryd.prog 4 #[.string s, .string t] w fun e w' => e = .returned (.bool true) ∧ Below w.heap.size w w' := by
  unfold maxLen at hm hm'
  by_cases h1 : 1500 < s.size
  · clear hs
    go_enter Tryd.func4, Tryd.ntmps4
    go_wp2_with fail
    refine (awake_any _ hF).mono ?_
    rintro e w1 ⟨rfl, hb1⟩
    go_wp2_with fail
    go_ret
    exact ⟨rfl, hb1⟩
  · have h2 : 1500 < t.size := by omega
    clear hs
    go_enter Tryd.func4, Tryd.ntmps4
    go_wp2_with fail
    refine (awake_any _ hF).mono ?_
    rintro e w1 ⟨rfl, hb1⟩
    go_wp2_with fail
    go_ret
    exact ⟨rfl, hb1⟩

set_option maxHeartbeats 1600000 in
set_option maxRecDepth 1000000 in
theorem joins_no (s t : ByteArray) (w : World) (hF : Facts w) (hs : s.size ≤ 1500) (ht : t.size ≤ 1500) (hab : lex s.data.toList = none ∨ lex t.data.toList = none) :
    Calls Tryd.prog 4 #[.string s, .string t] w fun e w' => e = .returned (.bool true) ∧ Below w.heap.size w w' := by
  have hs' : s.size ≤ maxLen := by unfold maxLen; omega
  have ht' : t.size ≤ maxLen := by unfold maxLen; omega
  have HAB := Lib.hid hab
  clear hab
  go_enter Tryd.func4, Tryd.ntmps4
  go_wp2_with fail
  refine (awake_any _ hF).mono ?_
  rintro e w1 ⟨rfl, hb1⟩
  have hF1 := hF.below hb1
  go_wp2_with fail
  rcases ha : lex s.data.toList with _ | a
  · have HA := Lib.hid ha
    clear ha
    refine (lex_none _ _ hF1 hs' HA.out).mono ?_
    rintro e w2 ⟨rfl, hb2⟩
    have hF2 := hF1.below hb2
    go_wp2_with fail
    refine (lex_any _ _ hF2 ht').mono ?_
    rintro e w3 hend
    obtain ⟨v, q, rfl, hb3⟩ := lexEnd_shape hend
    have hbel : Below w.heap.size w w3 := hb1.trans ((hb2.trans (hb3.mono hb2.size)).mono hb1.size)
    go_wp2_with fail
    go_ret
    exact ⟨rfl, hbel⟩
  · have hb : lex t.data.toList = none := by
      rcases HAB.out with h | h
      · rw [h] at ha; cases ha
      · exact h
    have HA := Lib.hid ha
    have HB := Lib.hid hb
    clear ha hb
    refine (lex_some _ _ _ hF1 hs' HA.out).mono ?_
    rintro e w2 ⟨va, rfl, hsa, hla, hb2⟩
    have hF2 := hF1.below hb2
    go_wp2_with fail
    refine (lex_none _ _ hF2 ht' HB.out).mono ?_
    rintro e w3 ⟨rfl, hb3⟩
    have hbel : Below w.heap.size w w3 := hb1.trans ((hb2.trans (hb3.mono hb2.size)).mono hb1.size)
    go_wp2_with fail
    go_ret
    exact ⟨rfl, hbel⟩

theorem joins_any (s t : ByteArray) (w : World) (hF : Facts w) (hm : s.size ≤ maxLen) (hm' : t.size ≤ maxLen) :
    Calls Tryd.prog 4 #[.string s, .string t] w fun e w' => e = .returned (.bool true) ∧ Below w.heap.size w w' := by
  by_cases hs : s.size ≤ 1500
  · by_cases ht : t.size ≤ 1500
    · rcases ha : lex s.data.toList with _ | a
      · exact joins_no s t w hF hs ht (Or.inl ha)
      · rcases hb : lex t.data.toList with _ | b
        · exact joins_no s t w hF hs ht (Or.inr hb)
        · exact joins_yes s t a b w hF hs ht ha hb
    · exact joins_long s t w hF (Or.inr (by omega)) hm hm'
  · exact joins_long s t w hF (Or.inl (by omega)) hm hm'
end Go.Proofs.YtemobkeogooecaaDoor.Lx
