/-
  From what a row lists of the library's package-level variables ('laid') to what the walks ask of the world; and a world that holds them (the witness).
-/
import Derived.Test.YtemobkeogooecaaDoorCards
import Derived.Test.YtemobkeogooecaaDoorTie
import Derived.Test.YtemobkeogooecaaDoorLexEnv
import Derived.ProofKit
import Derived.OpenShut
import Derived.Deep.DeepHandedRow
import Derived.Deep.DeepWitnessRowRef
import Derived.Lib.LaidCaseMet
import Derived.Stop.LaidErr
namespace Go.Proofs.YtemobkeogooecaaDoor.Lx
open Go.ChangeShapes Go.WideShapes Go.ChangeAt Go.RowKit Go.Shelf Go.Lib

/-- The variables that the rows list. -/
def laidList : List (String × DataW Unit) := Rows.lexTextsRow.laid

theorem case_data : (Rows.laid_unicode_CaseRanges : DataW Unit) = Lib.caseData := by kernel_rfl
theorem first_data : (Rows.laid_unicode_utf8_first : DataW Unit) = Lib.firstData := by kernel_rfl
theorem accept_data : (Rows.laid_unicode_utf8_acceptRanges : DataW Unit) = Lib.acceptData := by kernel_rfl
theorem caseX : CaseExtra Tryd.prog Tryd.lays159_ren := ⟨by kernel_rfl, by kernel_rfl, by kernel_rfl, by kernel_rfl, by kernel_rfl, by kernel_rfl⟩
theorem u8X : U8Extra Tryd.prog Tryd.lays159_ren := ⟨by kernel_rfl, by kernel_rfl, by kernel_rfl, by kernel_rfl, by kernel_rfl, by kernel_rfl, by kernel_rfl⟩
theorem gES : Tryd.prog.globalNamed "strconv.ErrSyntax" = some 4 := by kernel_rfl
theorem gER : Tryd.prog.globalNamed "strconv.ErrRange" = some 5 := by kernel_rfl

/-- A listed variable of an interface type holds an interface value. -/
theorem iface_of_reads {W : World} {n : String} {nm : String} {d : DataW Unit} {g ti : Nat} {ms : Array (String × TypeId)} (hg : Tryd.prog.globalNamed n = some g) (ht : (Tryd.prog.globals[g]?).map (·.type) = some ti) (hi : Tryd.prog.underlying ti = some (.interface ms))
    (h : VarReads Tryd.prog W n (.iface nm d)) : ∃ ev, W.cell? ⟨g, 0, none⟩ = some ev ∧ (ev = .nilIface ∨ ∃ te pe, ev = .iface te pe) := by
  obtain ⟨g', t, cs, fuel, p, hg', ht', hv, hd⟩ := h
  obtain rfl := Option.some.inj (hg.symm.trans hg')
  obtain rfl := Option.some.inj (ht.symm.trans ht')
  have hc := World.var?_cell hg' hv 0
  have hx : ∃ u v, cs[0]? = some (.iface u v) := by
    cases fuel with
    | zero => simp [DataW.trod] at hd
    | succ fuel =>
      obtain ⟨l⟩ := cs
      rcases l with _ | ⟨x, _ | ⟨y, r⟩⟩
      · simp [DataW.trod, hi] at hd
      · cases x <;> first | exact ⟨_, _, rfl⟩ | simp [DataW.trod, hi] at hd
      · cases x <;> simp [DataW.trod, hi] at hd
  obtain ⟨u, v, hx⟩ := hx
  exact ⟨_, hc.trans hx, Or.inr ⟨u, v, rfl⟩⟩

theorem facts_of {W : World} (hL : laidMet Tryd.prog laidList W) (hsh : W.ShapedOpen Tryd.prog) : Facts W where
  max := Tryd.laysM144.s1_3 W hsh
  tabs := utf8Tabs_of_reads { Tryd.lays159 with } u8X (by rw [← first_data]; exact Lib.laidMet.reads hL (.tail _ (.tail _ (.tail _ (.tail _ (.tail _ (.tail _ (.tail _ (.head _)))))))))
    (by rw [← accept_data]; exact Lib.laidMet.reads hL (.tail _ (.tail _ (.tail _ (.head _)))))
  cases := caseVar_of_reads { Tryd.lays159 with } Tryd.lays159.t206 caseX (by rw [← case_data]; exact Lib.laidMet.reads hL (.tail _ (.tail _ (.tail _ (.tail _ (.tail _ (.tail _ (.head _))))))))
  errSyntax := iface_of_reads gES (by kernel_rfl) Tryd.underlying52 (Lib.laidMet.reads hL (.tail _ (.tail _ (.tail _ (.tail _ (.tail _ (.head _)))))))
  errRange := iface_of_reads gER (by kernel_rfl) Tryd.underlying52 (Lib.laidMet.reads hL (.tail _ (.tail _ (.tail _ (.tail _ (.head _))))))

/-- THE WITNESS: the settled world with three blocks more (the two errors' texts; the rows of unicode.CaseRanges), the eight variables holding what their initialisers lay. -/
def cell1 : DataW Unit → List Value
  | .lit (.int k z) => [.int k z]
  | _ => []
def cell2 : DataW Unit → List Value
  | .agg ds => ds.flatMap cell1
  | d => cell1 d
def tabCells : DataW Unit → Array Value
  | .agg ds => (ds.flatMap cell2).toArray
  | _ => #[]
def rngText : ByteArray := ⟨#[118, 97, 108, 117, 101, 32, 111, 117, 116, 32, 111, 102, 32, 114, 97, 110, 103, 101]⟩
def synText : ByteArray := ⟨#[105, 110, 118, 97, 108, 105, 100, 32, 115, 121, 110, 116, 97, 120]⟩
def putRow (h : Array Obj) (g : Nat) (cs : Array Value) : Array Obj := h.modify g fun
  | .cells _ t frozen => .cells cs t frozen
  | o => o
noncomputable def laidWorld (os : Os) : World :=
  let N := (World.settled Tryd.prog os).heap.size
  let w0 := World.holding Tryd.prog os ⟨#[.cells #[.string rngText] 110, .cells #[.string synText] 110, .cells Lib.caseCells5 114], #[], []⟩
  let h1 := putRow w0.heap 7 (tabCells Rows.laid_math_bits_deBruijn32tab)
  let h2 := putRow h1 8 (tabCells Rows.laid_math_bits_deBruijn64tab)
  let h3 := putRow h2 6 (tabCells Rows.laid_internal_strconv_uint64pow10)
  let h4 := putRow h3 2 (tabCells Rows.laid_unicode_utf8_acceptRanges)
  let h5 := putRow h4 1 (tabCells Rows.laid_unicode_utf8_first)
  let h6 := putRow h5 5 #[.iface 108 (.pointer (some ⟨N, 0, none⟩))]
  let h7 := putRow h6 4 #[.iface 108 (.pointer (some ⟨N + 1, 0, none⟩))]
  let h8 := putRow h7 3 #[.slice (some ⟨N + 2, 0, none⟩) 336 336]
  { w0 with heap := h8 }

theorem laidVars_split {P : Program} {w : World} : ∀ {l l' : List (String × DataW Unit)} {ps : List MemPlace}, DataW.LaidVars P w (l ++ l') ps → ∃ p p', DataW.LaidVars P w l p ∧ DataW.LaidVars P w l' p' ∧ ps = p ++ p'
  | [], _, ps, h => ⟨[], ps, rfl, h, rfl⟩
  | (n, d) :: r, l', ps, h => by
    obtain ⟨g, t, cs, fuel, p, q, h1, h2, h3, h4, h5, rfl⟩ := h
    obtain ⟨p1, p2, k1, k2, rfl⟩ := laidVars_split h5
    exact ⟨_, p2, ⟨g, t, cs, fuel, p, p1, h1, h2, h3, h4, k1, rfl⟩, k2, by simp [List.append_assoc]⟩
/-- The last two of a list may be turned round. -/
theorem laidMet_turn {P : Program} {w : World} {l : List (String × DataW Unit)} {a b : String × DataW Unit} (h : laidMet P ((l ++ [a]) ++ [b]) w) : laidMet P (l ++ [b, a]) w := by
  obtain ⟨ps, hv, hn, hr⟩ := h
  obtain ⟨p1, p2, k1, k2, rfl⟩ := laidVars_split hv
  obtain ⟨q1, q2, m1, m2, rfl⟩ := laidVars_split k1
  have hperm : ((q1 ++ q2) ++ p2).Perm (q1 ++ (p2 ++ q2)) := by
    rw [List.append_assoc]
    exact List.Perm.append_left q1 List.perm_append_comm
  have hba : DataW.LaidVars P w [b, a] (p2 ++ q2) := LaidVars_append (l := [b]) (l' := [a]) k2 m2
  exact ⟨q1 ++ (p2 ++ q2), LaidVars_append m1 hba, hperm.nodup_iff.1 hn, fun b off hm => hr b off (hperm.mem_iff.2 hm)⟩

theorem laid_met (os : Os) (args : Array Value) : laidMet Tryd.prog laidList ((laidWorld os).forCall (fun _ _ => 0) ⟨#[], args, []⟩).memory := by
  have h := laidMet_with_case (ρ := Tryd.lays159_ren) { Tryd.lays159 with } Tryd.lays159.t206 caseX (w := ((laidWorld os).forCall (fun _ _ => 0) ⟨#[], args, []⟩).memory)
    (l := [("math/bits.deBruijn32tab", Rows.laid_math_bits_deBruijn32tab), ("math/bits.deBruijn64tab", Rows.laid_math_bits_deBruijn64tab), ("internal/strconv.uint64pow10", Rows.laid_internal_strconv_uint64pow10), ("unicode/utf8.acceptRanges", Rows.laid_unicode_utf8_acceptRanges), ("strconv.ErrRange", Rows.laid_strconv_ErrRange), ("strconv.ErrSyntax", Rows.laid_strconv_ErrSyntax), ("unicode/utf8.first", Rows.laid_unicode_utf8_first)])
    10 (by kernel_rfl) (by kernel_rfl) (by kernel_rfl) ((World.settled Tryd.prog default).heap.size + 2) 114 (of_decide_eq_true (by kernel_rfl)) (by kernel_rfl) (by kernel_rfl) (by kernel_rfl)
  rw [← case_data] at h
  exact laidMet_turn (l := [("math/bits.deBruijn32tab", Rows.laid_math_bits_deBruijn32tab), ("math/bits.deBruijn64tab", Rows.laid_math_bits_deBruijn64tab), ("internal/strconv.uint64pow10", Rows.laid_internal_strconv_uint64pow10), ("unicode/utf8.acceptRanges", Rows.laid_unicode_utf8_acceptRanges), ("strconv.ErrRange", Rows.laid_strconv_ErrRange), ("strconv.ErrSyntax", Rows.laid_strconv_ErrSyntax)]) h
theorem own : ownKnob Tryd.prog.godebug = none := by kernel_rfl
end Go.Proofs.YtemobkeogooecaaDoor.Lx
