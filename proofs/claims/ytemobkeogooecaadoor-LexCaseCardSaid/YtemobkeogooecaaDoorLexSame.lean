/-
  The contract of pleachref18.Same: whether two slices hold the same tokens.
-/
import Derived.Test.YtemobkeogooecaaDoorLexLex
import Derived.BigQuiet
import Derived.Deep.QuietTactic
import Derived.Laws.StructEq
namespace Go.Proofs.YtemobkeogooecaaDoor.Lx
open Go.RowKit Go.Lib

/-- The slice value v holds the tokens ts. -/
def Sl (w : World) (v : Value) (ts : List Tok) : Prop :=
  ∃ A c, v = .slice A ts.length c ∧ (0 < ts.length → ∃ g : Nat, A = some ⟨g, 0, none⟩ ∧ ∀ j u, (tokRow ts)[j]? = some u → w.cell? ⟨g, j, none⟩ = some u)

theorem tokRow_at (ts : List Tok) (i : Nat) (h : i < ts.length) : (tokRow ts)[i * 3]? = some (.string ⟨ts[i].kind.toArray⟩) ∧ (tokRow ts)[i * 3 + 1]? = some (.string ⟨ts[i].text.toArray⟩) ∧ (tokRow ts)[i * 3 + 2]? = some (.int .i64 ts[i].n) := by
  induction ts generalizing i with
  | nil => simp at h
  | cons t ts ih =>
    have e : tokRow (t :: ts) = tokCells t ++ tokRow ts := rfl
    cases i with
    | zero => rw [e]; simp [tokCells]
    | succ i =>
      have h' : i < ts.length := by simpa using h
      obtain ⟨h1, h2, h3⟩ := ih i h'
      have e1 : (i + 1) * 3 = (tokCells t).length + i * 3 := by simp [tokCells]; omega
      rw [e, e1]
      refine ⟨?_, ?_, ?_⟩
      · rw [List.getElem?_append_right (by omega), Nat.add_sub_cancel_left]; simpa using h1
      · rw [List.getElem?_append_right (by omega), show (tokCells t).length + i * 3 + 1 - (tokCells t).length = i * 3 + 1 by omega]; simpa using h2
      · rw [List.getElem?_append_right (by omega), show (tokCells t).length + i * 3 + 2 - (tokCells t).length = i * 3 + 2 by omega]; simpa using h3

/-- Are two tokens, as the three values, the same? -/
def tokBeq (k x : ByteArray) (n : Int) (k' x' : ByteArray) (n' : Int) : Bool := decide (k = k' ∧ x = x' ∧ n = n')
theorem tokFields : Tryd.prog.fieldsOf 27 = #[⟨"Kind", 9, 0, false, "", "", 0⟩, ⟨"Text", 9, 1, false, "", "", 16⟩, ⟨"N", 2, 2, false, "", "", 32⟩] := by kernel_rfl
theorem tokUnder : Tryd.prog.underlying 27 = some (.struct (Tryd.prog.fieldsOf 27)) := by kernel_rfl
theorem tokHeld : Tryd.prog.stoodInHeld 27 = false := by kernel_rfl
theorem tokGuard : Tryd.prog.eqGuardType Tryd.prog.depth 27 = false := by kernel_rfl
theorem bytes_beq (a b : ByteArray) : (a.toList == b.toList) = decide (a = b) := by
  rw [Lib.toList_data, Lib.toList_data]
  by_cases h : a = b
  · subst h; simp
  · have h2 : ¬ a.data.toList = b.data.toList := fun h' => h (by rw [← Lib.mk_data a, ← Lib.mk_data b, h'])
    rw [decide_eq_false h, beq_eq_false_iff_ne]
    exact h2
theorem run_tok_eq (w : World) (k x : ByteArray) (n : Int) (k' x' : ByteArray) (n' : Int) :
    (Op.equalIn 10000 27 (.agg #[.string k, .string x, .int .i64 n]) (.agg #[.string k', .string x', .int .i64 n'])).run Tryd.prog w = .ok (tokBeq k x n k' x' n') w := by
  rw [run_equalIn_agg w 9999 _ _ _ tokUnder tokHeld, tokFields]
  have p0 : ∀ (a b c : Value) (w : World), (part 9 #[a, b, c] 0).run Tryd.prog w = .ok a w := fun a b c w => by simp [part, Tryd.isAgg9]
  have p1 : ∀ (a b c : Value) (w : World), (part 9 #[a, b, c] 1).run Tryd.prog w = .ok b w := fun a b c w => by simp [part, Tryd.isAgg9]
  have p2 : ∀ (a b c : Value) (w : World), (part 2 #[a, b, c] 2).run Tryd.prog w = .ok c w := fun a b c w => by simp [part, Tryd.isAgg2]
  have e1 : ∀ (a b : ByteArray) (w : World), (Op.equalIn 9999 9 (.string a) (.string b)).run Tryd.prog w = .ok (decide (a = b)) w := fun a b w => by rw [run_equalIn_string w 9998 _ _ _ Tryd.underlying9, bytes_beq]
  have e2 : ∀ (a b : Int) (w : World), (Op.equalIn 9999 2 (.int .i64 a) (.int .i64 b)).run Tryd.prog w = .ok (a == b) w := fun a b w => by rw [run_equalIn_int w 9998 _ _ _ _ _ Tryd.underlying2]
  unfold tokBeq
  simp only [Op.eqFields]
  by_cases h1 : k = k' <;> by_cases h2 : x = x' <;> by_cases h3 : n = n' <;> simp [p0, p1, p2, e1, e2, h1, h2, h3]

theorem tokBeq_no {a b : Tok} (h : ¬ a = b) : tokBeq ⟨a.kind.toArray⟩ ⟨a.text.toArray⟩ a.n ⟨b.kind.toArray⟩ ⟨b.text.toArray⟩ b.n = false := by
  unfold tokBeq
  rw [decide_eq_false_iff_not]
  rintro ⟨h1, h2, h3⟩
  apply h
  have e1 : a.kind = b.kind := by simpa using h1
  have e2 : a.text = b.text := by simpa using h2
  obtain ⟨ak, at_, an⟩ := a
  obtain ⟨bk, bt, bn⟩ := b
  simp only at e1 e2 h3
  subst e1; subst e2; subst h3; rfl
theorem take_more {a b : List Tok} {k : Nat} (ha : k < a.length) (hb : k < b.length) (h : a.take k = b.take k) (he : a[k] = b[k]) : a.take (k + 1) = b.take (k + 1) := by
  rw [List.take_succ_eq_append_getElem ha, List.take_succ_eq_append_getElem hb, h, he]

set_option maxHeartbeats 1600000 in
set_option maxRecDepth 1000000 in
theorem same_one (va vb : Value) (a b : List Tok) (w : World) (ha : Sl w va a) (hb : Sl w vb b) (hla : a.length ≤ 100000) (hlb : b.length ≤ 100000) :
    Calls Tryd.prog 8 #[va, vb] w fun e w' => e = .returned (.bool (decide (a = b))) ∧ ∃ q, w' = w.drewN q := by
  obtain ⟨A, ca, rfl, hA⟩ := ha
  obtain ⟨B, cb, rfl, hB⟩ := hb
  by_cases hl : a.length = b.length
  · have h1 : ((a.length : Int) == b.length) = true := by rw [beq_iff_eq]; omega
    have h1' : ((a.length : Int) != b.length) = false := by simp; omega
    have HL := Lib.hid hl
    have HA := Lib.hid hA
    have HB := Lib.hid hB
    clear hl hA hB
    go_enter Tryd.func8, Tryd.ntmps8
    go_wp2
    go_loopw [5] (fun i wr => ∃ (k q : Nat), k ≤ a.length ∧ i = .int .i64 k ∧ a.take k = b.take k ∧ wr = w.drewN q) (fun i _ => a.length - (intOf i).toNat)
    case atStart => exact ⟨0, 0, Nat.zero_le _, rfl, rfl, rfl⟩
    case round =>
      obtain ⟨k, q, hk, rfl, htk, rfl⟩ := hrel
      have HT := Lib.hid htk
      clear htk
      by_cases hlt : k < a.length
      · have hltb : k < b.length := by have := HL.out; omega
        obtain ⟨ga, hga, hca⟩ := HA.out (by omega)
        obtain ⟨gb, hgb, hcb⟩ := HB.out (by omega)
        subst hga; subst hgb
        obtain ⟨a1, a2, a3⟩ := tokRow_at a k hlt
        obtain ⟨b1, b2, b3⟩ := tokRow_at b k hltb
        have x1 := hca _ _ a1
        have x2 := hca _ _ a2
        have x3 := hca _ _ a3
        have y1 := hcb _ _ b1
        have y2 := hcb _ _ b2
        have y3 := hcb _ _ b3
        clear hca hcb a1 a2 a3 b1 b2 b3
        have hm := tokGuard
        have heq := run_tok_eq
        by_cases hab : a[k] = b[k]
        · have hbe : tokBeq ⟨a[k].kind.toArray⟩ ⟨a[k].text.toArray⟩ a[k].n ⟨b[k].kind.toArray⟩ ⟨b[k].text.toArray⟩ b[k].n = true := by rw [hab]; simp [tokBeq]
          have Hab := Lib.hid hab
          clear hab
          go_wp2_with fail
          go_quiet (fail)
          clear heq hm
          go_wp2
          go_roundw
          case rel => exact ⟨k + 1, q + nq, by omega, by go_num, take_more hlt hltb HT.out Hab.out, rfl⟩
          case measure => simp [intOf]; omega
        · have hbe : tokBeq ⟨a[k].kind.toArray⟩ ⟨a[k].text.toArray⟩ a[k].n ⟨b[k].kind.toArray⟩ ⟨b[k].text.toArray⟩ b[k].n = false := tokBeq_no hab
          have Hab := Lib.hid hab
          clear hab
          go_wp2_with fail
          go_quiet (fail)
          clear heq hm
          go_wp2
          go_ret
          have hne : ¬ a = b := fun h => by subst h; exact Hab.out rfl
          exact ⟨by rw [decide_eq_false hne]; rfl, q + nq, by rw [World.drewN_drewN]⟩
      · have hab : a = b := by
          have h1 : a.take k = a := List.take_of_length_le (by omega)
          have h2 : b.take k = b := List.take_of_length_le (by have := HL.out; omega)
          rw [← h1, ← h2]; exact HT.out
        have Hab := Lib.hid hab
        clear hab
        go_wp2
        go_ret
        exact ⟨by rw [decide_eq_true Hab.out]; rfl, q, rfl⟩
  · have h1 : ((a.length : Int) == b.length) = false := by simp; omega
    have h1' : ((a.length : Int) != b.length) = true := by simp; omega
    have hne : ¬ a = b := fun h => hl (by rw [h])
    have HN := Lib.hid hne
    clear hne hl hA hB
    go_enter Tryd.func8, Tryd.ntmps8
    go_wp2
    go_ret
    exact ⟨by rw [decide_eq_false HN.out]; rfl, 0, rfl⟩
end Go.Proofs.YtemobkeogooecaaDoor.Lx
