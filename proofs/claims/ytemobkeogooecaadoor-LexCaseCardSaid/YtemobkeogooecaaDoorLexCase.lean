/-
  The walk of pleachlaw18.LexCase.
-/
import Derived.Test.YtemobkeogooecaaDoorLexAwake
import Derived.Test.YtemobkeogooecaaDoorLexCase0
import Derived.Laws.IdiomStrings
import Derived.Lib.ConvBytes
namespace Go.Proofs.YtemobkeogooecaaDoor.Lx
open Go.RowKit Go.Lib

/-- Block g holds the bytes l (and room behind them). -/
def BRow (w : World) (g : Nat) (l : Bytes) : Prop :=
  ∃ (cs : Array Value) (m : Nat), w.heap[g]? = some (.cells cs 5 (m, m + 1)) ∧ cs.size = m ∧ l.length ≤ m ∧ ∀ j (h : j < l.length), cs[j]? = some (.int .u8 (l[j].toNat : Int))
theorem BRow.lt {w : World} {g : Nat} {l : Bytes} (h : BRow w g l) : g < w.heap.size := by
  obtain ⟨cs, m, h, _⟩ := h
  rcases Nat.lt_or_ge g w.heap.size with hlt | hge
  · exact hlt
  · rw [Array.getElem?_eq_none hge] at h; cases h
theorem BRow.cell {w : World} {g : Nat} {l : Bytes} (h : BRow w g l) (j : Nat) (hj : j < l.length) : w.cell? ⟨g, j, none⟩ = some (.int .u8 (l[j].toNat : Int)) := by
  obtain ⟨cs, m, h, _, _, hc⟩ := h
  rw [Lib.cell_of_heap h]; exact hc j hj
theorem BRow.frozen {w : World} {g : Nat} {l : Bytes} (h : BRow w g l) (j : Nat) (hj : j < l.length) : w.frozen? ⟨g, j, none⟩ = false := by
  obtain ⟨cs, m, h, _, hm, _⟩ := h
  have hlt : g < w.heap.size := by
    rcases Nat.lt_or_ge g w.heap.size with hlt | hge
    · exact hlt
    · rw [Array.getElem?_eq_none hge] at h; cases h
  have : ¬ m ≤ j := by omega
  simp [World.frozen?, h, this]
theorem BRow.set_ {w : World} {g : Nat} {l : Bytes} (h : BRow w g l) (j : Nat) (hj : j < l.length) (b : UInt8) : BRow (w.setCell ⟨g, j, none⟩ (.int .u8 (b.toNat : Int))) g (l.set j b) := by
  obtain ⟨cs, m, h, hs, hm, hc⟩ := h
  refine ⟨cs.setIfInBounds j (.int .u8 (b.toNat : Int)), m, ?_, by simpa using hs, by simpa using hm, fun i hi => ?_⟩
  · simp [World.setCell, Array.getElem?_modify, h]
  · have hi' : i < l.length := by simpa using hi
    by_cases hij : j = i
    · subst hij
      have hlt : j < cs.size := by omega
      simp [hlt]
    · rw [Array.getElem?_setIfInBounds_ne (by omega)]
      simp only [List.getElem_set, if_neg hij]
      exact hc i hi'
theorem BRow.far {w : World} {g : Nat} {l : Bytes} (h : BRow w g l) {p : Addr} (hp : g ≠ p.block) (u : Value) : BRow (w.setCell p u) g l := by
  obtain ⟨cs, m, h, r⟩ := h
  exact ⟨cs, m, (Below.heap_setCell w p u g hp).trans h, r⟩
theorem BRow.below {w w' : World} {g : Nat} {l : Bytes} (h : BRow w g l) (hb : Below w.heap.size w w') : BRow w' g l := by
  have hlt := h.lt
  obtain ⟨cs, m, h, r⟩ := h
  exact ⟨cs, m, (hb.block g hlt).trans h, r⟩
theorem BRow.new (w : World) (s : ByteArray) : BRow (Lib.bytesWorld w 5 s) w.heap.size s.data.toList := by
  refine ⟨_, _, Lib.bytesWorld_at_new w 5 s, rfl, ?_, fun j hj => ?_⟩
  · rw [← Lib.size_eq]; simp [Lib.bytesCells]
  · have hj' : j < s.size := by rw [Lib.size_eq]; exact hj
    have := Lib.bytesWorld_cell w 5 s j hj'
    rw [Lib.cell_of_heap (Lib.bytesWorld_at_new w 5 s)] at this
    rw [this]
    simp [List.getD, hj']

/-- The first k bytes turned. -/
def part' (f : UInt8 → UInt8) (k : Nat) (l : Bytes) : Bytes := (l.take k).map f ++ l.drop k
theorem part_len (f : UInt8 → UInt8) (k : Nat) (l : Bytes) : (part' f k l).length = l.length := by
  simp [part']; omega
theorem part_more (f : UInt8 → UInt8) (k : Nat) (l : Bytes) (h : k < l.length) : part' f (k + 1) l = (part' f k l).set k (f l[k]) := by
  unfold part'
  have e : ((l.take k).map f).length = k := by simp; omega
  rw [List.take_succ_eq_append_getElem h, List.map_append, List.set_append_right _ _ (by omega), e, Nat.sub_self, List.drop_eq_getElem_cons (i := k) h, List.set_cons_zero, List.append_assoc]
  rfl
theorem part_same (f : UInt8 → UInt8) (k : Nat) (l : Bytes) (h : k < l.length) (hf : f l[k] = l[k]) : part' f (k + 1) l = part' f k l := by
  unfold part'
  rw [List.take_succ_eq_append_getElem h, List.map_append, List.drop_eq_getElem_cons (i := k) h]
  simp [hf]
theorem part_all (f : UInt8 → UInt8) (l : Bytes) (k : Nat) (h : l.length ≤ k) : part' f k l = l.map f := by
  unfold part'
  rw [List.take_of_length_le h, List.drop_eq_nil_of_le h, List.append_nil]

/-- What the loop of LexCase holds. -/
structure CaseRel (s : ByteArray) (w1 : World) (B k : Nat) (wr : World) : Prop where
  small : BRow wr B (part' lowerB k s.data.toList)
  great : BRow wr (B + 1) (part' upperB k s.data.toList)
  text : BRow wr (B + 1 + 1) s.data.toList
  below : Below w1.heap.size w1 wr
  quote : 39 ∉ s.data.toList.take k

theorem case_start (s : ByteArray) (w1 : World) : CaseRel s w1 w1.heap.size 0 (Lib.bytesWorld (Lib.bytesWorld (Lib.bytesWorld w1 5 s) 5 s) 5 s) where
  small := ((BRow.new w1 s).below (Lib.bytesWorld_below _ _ _)).below (Lib.bytesWorld_below _ _ _)
  great := by have := (BRow.new (Lib.bytesWorld w1 5 s) s).below (Lib.bytesWorld_below _ 5 s); rw [Lib.bytesWorld_size] at this; exact this
  text := by have := BRow.new (Lib.bytesWorld (Lib.bytesWorld w1 5 s) 5 s) s; rw [Lib.bytesWorld_size, Lib.bytesWorld_size] at this; exact this
  below := (Lib.bytesWorld_below _ _ _).trans (((Lib.bytesWorld_below _ _ _).trans ((Lib.bytesWorld_below _ _ _).mono (by simp only [Lib.bytesWorld_size]; omega))).mono (by simp only [Lib.bytesWorld_size]; omega))
  quote := by simp

theorem quote_more {s : ByteArray} {k : Nat} (h : k < s.size) (hq : 39 ∉ s.data.toList.take k) (hc : ¬ s[k] = 39) : 39 ∉ s.data.toList.take (k + 1) := by
  have hl : k < s.data.toList.length := by simpa using h
  rw [List.take_succ_eq_append_getElem hl]
  intro h'
  rcases List.mem_append.1 h' with h' | h'
  · exact hq h'
  · have : 39 = s.data.toList[k] := by simpa using h'
    exact hc this.symm
theorem case_upper {s : ByteArray} {w1 wr : World} {k B : Nat} (hB : w1.heap.size ≤ B) (h : CaseRel s w1 B k wr) (hk : k < s.size) (hu : 65 ≤ s[k].toNat ∧ s[k].toNat ≤ 90) :
    CaseRel s w1 B (k + 1) (wr.setCell ⟨B, k, none⟩ (.int .u8 ((s[k].toNat : Int) + 32))) := by
  have hl : k < s.data.toList.length := by simpa using hk
  have e : s.data.toList[k] = s[k] := rfl
  have hf : lowerB s[k] = s[k] + 32 := by
    unfold lowerB isUpperB
    rw [if_pos]
    simp only [Bool.and_eq_true, decide_eq_true_eq, UInt8.le_iff_toNat_le]
    exact hu
  have hn : (s[k] + 32).toNat = s[k].toNat + 32 := by
    rw [UInt8.toNat_add]; have : (32 : UInt8).toNat = 32 := rfl; omega
  have hf2 : upperB s[k] = s[k] := by
    unfold upperB isLowerB
    rw [if_neg]
    simp only [Bool.and_eq_true, decide_eq_true_eq, UInt8.le_iff_toNat_le]
    have : (97 : UInt8).toNat = 97 := rfl
    omega
  refine ⟨?_, ?_, h.text.far (by simp; omega) _, h.below.setCell hB _, quote_more hk h.quote (fun h' => by rw [h'] at hu; simp at hu)⟩
  · have := h.small.set_ k (by rw [part_len]; exact hl) (s[k] + 32)
    rw [hn] at this
    rw [part_more _ _ _ hl, e, hf]
    exact this
  · rw [part_same _ _ _ hl (by rw [e]; exact hf2)]
    exact h.great.far (by simp) _
theorem case_lower {s : ByteArray} {w1 wr : World} {k B : Nat} (hB : w1.heap.size ≤ B) (h : CaseRel s w1 B k wr) (hk : k < s.size) (hu : 97 ≤ s[k].toNat ∧ s[k].toNat ≤ 122) :
    CaseRel s w1 B (k + 1) (wr.setCell ⟨B + 1, k, none⟩ (.int .u8 ((s[k].toNat : Int) - 32))) := by
  have hl : k < s.data.toList.length := by simpa using hk
  have e : s.data.toList[k] = s[k] := rfl
  have hf : upperB s[k] = s[k] - 32 := by
    unfold upperB isLowerB
    rw [if_pos]
    simp only [Bool.and_eq_true, decide_eq_true_eq, UInt8.le_iff_toNat_le]
    exact hu
  have hn : ((s[k] - 32).toNat : Int) = (s[k].toNat : Int) - 32 := by
    rw [UInt8.toNat_sub_of_le _ _ (by rw [UInt8.le_iff_toNat_le]; have : (32 : UInt8).toNat = 32 := rfl; omega)]
    have : (32 : UInt8).toNat = 32 := rfl
    omega
  have hf2 : lowerB s[k] = s[k] := by
    unfold lowerB isUpperB
    rw [if_neg]
    simp only [Bool.and_eq_true, decide_eq_true_eq, UInt8.le_iff_toNat_le]
    have : (90 : UInt8).toNat = 90 := rfl
    omega
  refine ⟨?_, ?_, h.text.far (by simp) _, h.below.setCell (by simp; omega) _, quote_more hk h.quote (fun h' => by rw [h'] at hu; simp at hu)⟩
  · rw [part_same _ _ _ hl (by rw [e]; exact hf2)]
    exact h.small.far (by simp) _
  · have := h.great.set_ k (by rw [part_len]; exact hl) (s[k] - 32)
    rw [hn] at this
    rw [part_more _ _ _ hl, e, hf]
    exact this
theorem case_other {s : ByteArray} {w1 wr : World} {k B : Nat} (h : CaseRel s w1 B k wr) (hk : k < s.size) (h1 : ¬ (65 ≤ s[k].toNat ∧ s[k].toNat ≤ 90)) (h2 : ¬ (97 ≤ s[k].toNat ∧ s[k].toNat ≤ 122)) (h3 : ¬ s[k] = 39) :
    CaseRel s w1 B (k + 1) wr := by
  have hl : k < s.data.toList.length := by simpa using hk
  have e : s.data.toList[k] = s[k] := rfl
  have hf1 : lowerB s[k] = s[k] := by
    unfold lowerB isUpperB
    rw [if_neg]
    simp only [Bool.and_eq_true, decide_eq_true_eq, UInt8.le_iff_toNat_le]
    exact h1
  have hf2 : upperB s[k] = s[k] := by
    unfold upperB isLowerB
    rw [if_neg]
    simp only [Bool.and_eq_true, decide_eq_true_eq, UInt8.le_iff_toNat_le]
    exact h2
  exact ⟨by rw [part_same _ _ _ hl (by rw [e]; exact hf1)]; exact h.small, by rw [part_same _ _ _ hl (by rw [e]; exact hf2)]; exact h.great, h.text, h.below, quote_more hk h.quote h3⟩

theorem conv_back (W : World) (g c : Nat) (l : Bytes) (h : BRow W g l) : (convert 31 9 (.slice (some ⟨g, 0, none⟩) l.length c)).run Tryd.prog W = .ok (.string ⟨l.toArray⟩) W :=
  run_convert_bytes_back (P := Tryd.prog) W 31 9 5 ⟨g, 0, none⟩ c l Tryd.underlying31 Tryd.underlying5 Tryd.underlying9 (fun j hj => by rw [add_zero_off]; exact h.cell j hj)

set_option maxHeartbeats 3200000 in
set_option maxRecDepth 1000000 in
theorem case_loop (s : ByteArray) (w : World) (hF : Facts w) (hs : s.size ≤ 1500) :
    Calls Tryd.prog 5 #[.string s] w fun e w' => e = .returned (.bool true) ∧ Below w.heap.size w w' := by
  have kc := fun W : World => Lib.run_convert_string_bytes (P := Tryd.prog) W 9 31 5 s Tryd.underlying9 Tryd.underlying31 Tryd.underlying5
  have hz := fun W : World => Lib.bytesWorld_size W 5 s
  go_enter Tryd.func5, Tryd.ntmps5
  go_wp2_with fail
  refine (awake_any _ hF).mono ?_
  rintro e w1 ⟨rfl, hb1⟩
  have hF1 := hF.below hb1
  go_wp2_with fail
  have hst := case_start s w1
  generalize grownCap w1 s.size 0 5 = ca
  generalize grownCap (bytesWorld w1 5 s) s.size 0 5 = cb
  generalize grownCap (bytesWorld (bytesWorld w1 5 s) 5 s) s.size 0 5 = cc
  generalize hB : w1.heap.size = B at hst ⊢
  have HB := Lib.hid hB
  clear hB kc hz
  go_loopw [23] (fun i wr => ∃ k : Nat, k ≤ s.size ∧ i = .int .i64 k ∧ CaseRel s w1 B k wr) (fun i _ => s.size - (intOf i).toNat)
  case atStart => exact ⟨0, Nat.zero_le _, rfl, hst⟩
  case round =>
    obtain ⟨k, hk, rfl, hR⟩ := hrel
    clear hst
    by_cases hlt : k < s.size
    · have hl : k < s.data.toList.length := by simpa using hlt
      have x3 : wr.cell? ⟨B + 1 + 1, k, none⟩ = some (.int .u8 (s[k].toNat : Int)) := hR.text.cell k hl
      have x1 := hR.small.cell k (by rw [part_len]; exact hl)
      have x2 := hR.great.cell k (by rw [part_len]; exact hl)
      have y1 := hR.small.frozen k (by rw [part_len]; exact hl)
      have y2 := hR.great.frozen k (by rw [part_len]; exact hl)
      have hby : s[k].toNat < 256 := UInt8.toNat_lt _
      by_cases h39 : s[k] = 39
      · have t1 : ((s[k].toNat : Int) == 39) = true := by rw [h39]; rfl
        clear h39
        go_wp2_with fail
        go_ret
        exact ⟨rfl, hb1.trans (hR.below.mono hb1.size)⟩
      · have t1 : ((s[k].toNat : Int) == 39) = false := by
          rw [beq_eq_false_iff_ne]; intro h'; exact h39 (UInt8.toNat_inj.1 (by have : (39 : UInt8).toNat = 39 := rfl; omega))
        have H39 := Lib.hid h39
        clear h39
        by_cases hu : 65 ≤ s[k].toNat ∧ s[k].toNat ≤ 90
        · obtain ⟨u1, u2⟩ := hu
          go_wp2_with fail
          go_roundw
          case rel => exact ⟨k + 1, by omega, by go_num, case_upper (Nat.le_of_eq HB.out) hR hlt ⟨u1, u2⟩⟩
          case measure => simp [intOf]; omega
        · by_cases hlo : 97 ≤ s[k].toNat ∧ s[k].toNat ≤ 122
          · obtain ⟨u1, u2⟩ := hlo
            clear hu
            go_wp2_with fail
            go_roundw
            case rel => exact ⟨k + 1, by omega, by go_num, case_lower (Nat.le_of_eq HB.out) hR hlt ⟨u1, u2⟩⟩
            case measure => simp [intOf]; omega
          · have hR' := case_other hR hlt hu hlo H39.out
            by_cases z1 : s[k].toNat < 65
            · clear hu hlo
              go_wp2_with fail
              go_roundw
              case rel => exact ⟨k + 1, by omega, by go_num, hR'⟩
              case measure => simp [intOf]; omega
            · by_cases z2 : s[k].toNat < 97
              · have z3 : 90 < s[k].toNat := by omega
                clear hu hlo
                go_wp2_with fail
                go_roundw
                case rel => exact ⟨k + 1, by omega, by go_num, hR'⟩
                case measure => simp [intOf]; omega
              · have z3 : 122 < s[k].toNat := by omega
                clear hu hlo
                go_wp2_with fail
                go_roundw
                case rel => exact ⟨k + 1, by omega, by go_num, hR'⟩
                case measure => simp [intOf]; omega
    · have hkk : s.data.toList.length ≤ k := by rw [← Lib.size_eq]; omega
      obtain ⟨sm, gr, _, hbl, hq⟩ := hR
      rw [part_all _ _ _ hkk] at sm gr
      rw [List.take_of_length_le hkk] at hq
      have hlen : s.data.toList.length ≤ 1500 := by rw [← Lib.size_eq]; exact hs
      have c1 := fun (W : World) (hW : BRow W B (s.data.toList.map lowerB)) => conv_back W B ca (s.data.toList.map lowerB) hW
      have c2 := fun (W : World) (hW : BRow W (B + 1) (s.data.toList.map upperB)) => conv_back W (B + 1) cb (s.data.toList.map upperB) hW
      have k1 := c1 wr sm
      rw [List.length_map, ← Lib.size_eq] at k1
      have L1 : Hid (lex (⟨(s.data.toList.map lowerB).toArray⟩ : ByteArray).data.toList = toks s.data.toList) := by
        rw [show ((⟨(s.data.toList.map lowerB).toArray⟩ : ByteArray).data.toList) = s.data.toList.map lowerB from rfl, lex_short (by rw [List.length_map]; omega)]
        exact toks_case lower_map _ _ (Nat.le_refl _) hq
      have L2 : Hid (lex (⟨(s.data.toList.map upperB).toArray⟩ : ByteArray).data.toList = toks s.data.toList) := by
        rw [show ((⟨(s.data.toList.map upperB).toArray⟩ : ByteArray).data.toList) = s.data.toList.map upperB from rfl, lex_short (by rw [List.length_map]; omega)]
        exact toks_case upper_map _ _ (Nat.le_refl _) hq
      have m1 : (⟨(s.data.toList.map lowerB).toArray⟩ : ByteArray).size ≤ maxLen := by unfold maxLen; rw [Lib.size_eq]; simp; omega
      have m2 : (⟨(s.data.toList.map upperB).toArray⟩ : ByteArray).size ≤ maxLen := by unfold maxLen; rw [Lib.size_eq]; simp; omega
      have hF2 := hF1.below hbl
      have hbw : Below w.heap.size w wr := hb1.trans (hbl.mono hb1.size)
      clear hq
      go_wp2_with fail
      rcases htk : toks s.data.toList with _ | ts
      · rw [htk] at L1 L2
        clear htk
        refine (lex_none _ _ hF2 m1 L1.out).mono ?_
        rintro e w2 ⟨rfl, hb2⟩
        have hF3 := hF2.below hb2
        have k2 := c2 w2 (gr.below hb2)
        rw [List.length_map, ← Lib.size_eq] at k2
        go_wp2_with fail
        refine (lex_none _ _ hF3 m2 L2.out).mono ?_
        rintro e w3 ⟨rfl, hb3⟩
        have hbel : Below w.heap.size w w3 := hbw.trans ((hb2.trans (hb3.mono hb2.size)).mono hbw.size)
        go_wp2_with fail
        refine (same_one _ _ [] [] w3 ⟨none, 0, rfl, fun h => by simp at h⟩ ⟨none, 0, rfl, fun h => by simp at h⟩ (by simp) (by simp)).mono ?_
        rintro e w4 ⟨rfl, q4, rfl⟩
        go_wp2
        go_ret
        exact ⟨by simp, below_drewN hbel q4⟩
      · rw [htk] at L1 L2
        clear htk
        refine (lex_some _ _ _ hF2 m1 L1.out).mono ?_
        rintro e w2 ⟨va, rfl, hsa, hla, hb2⟩
        have hF3 := hF2.below hb2
        have k2 := c2 w2 (gr.below hb2)
        rw [List.length_map, ← Lib.size_eq] at k2
        go_wp2_with fail
        refine (lex_some _ _ _ hF3 m2 L2.out).mono ?_
        rintro e w3 ⟨vb, rfl, hsb, hlb, hb3⟩
        have hbel : Below w.heap.size w w3 := hbw.trans ((hb2.trans (hb3.mono hb2.size)).mono hbw.size)
        go_wp2_with fail
        refine (same_one va vb ts ts w3 (hsa.below hb3) hsb (by omega) (by omega)).mono ?_
        rintro e w4 ⟨rfl, q4, rfl⟩
        go_wp2
        go_ret
        exact ⟨by simp, below_drewN hbel q4⟩

set_option maxHeartbeats 1600000 in
set_option maxRecDepth 1000000 in
theorem case_long (s : ByteArray) (w : World) (hF : Facts w) (hs : 1500 < s.size) (hm : s.size ≤ maxLen) :
    Calls Tryd.prog 5 #[.string s] w fun e w' => e = .returned (.bool true) ∧ Below w.heap.size w w' := by
  unfold maxLen at hm
  go_enter Tryd.func5, Tryd.ntmps5
  go_wp2_with fail
  refine (awake_any _ hF).mono ?_
  rintro e w1 ⟨rfl, hb1⟩
  go_wp2_with fail
  go_ret
  exact ⟨rfl, hb1⟩

theorem case_any (s : ByteArray) (w : World) (hF : Facts w) (hm : s.size ≤ maxLen) :
    Calls Tryd.prog 5 #[.string s] w fun e w' => e = .returned (.bool true) ∧ Below w.heap.size w w' := by
  by_cases hs : s.size ≤ 1500
  · exact case_loop s w hF hs
  · exact case_long s w hF (by omega) hm
end Go.Proofs.YtemobkeogooecaaDoor.Lx
