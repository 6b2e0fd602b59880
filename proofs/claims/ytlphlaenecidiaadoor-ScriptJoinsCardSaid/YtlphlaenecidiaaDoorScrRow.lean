/- Scripts: what a row's list gives; an Entry that came in; a world that holds what is listed. -/
import Derived.Test.YtlphlaenecidiaaDoorRows
import Derived.Test.YtlphlaenecidiaaDoorScr5
import Derived.Test.YtlphlaenecidiaaDoorRow
import Derived.Stop.LaidErr
import Derived.Lib.LaidTab
import Derived.Shelf.Vars
namespace Go.Proofs.YtlphlaenecidiaaDoor.Scr
open Go.ChangeShapes Go.WideShapes Go.ChangeAt Go.RowKit Go.Proofs.YtlphlaenecidiaaDoor.Row Go.Proofs.YtlphlaenecidiaaDoor.Mem

/-- An array of strings that reads as listed. -/
theorem strs_of_laid {P : Program} {n g : Nat} {t e : TypeId} {name : String} {rest : List (String × DataW Unit)} {W : World} {ss : List (List UInt8)} (hg : P.globalNamed name = some g) (hty : (P.globals[g]?).map (·.type) = some t)
    (ht : P.underlying t = some (.array n e)) (he : P.underlying e = some .string) (hce : P.cellsOf e = 1) (h : laidMet P ((name, .agg (ss.map fun s => .lit (.string s))) :: rest) W) :
    ∀ (j : Nat) (s : List UInt8), ss[j]? = some s → W.cell? ⟨g, j, none⟩ = some (.string ⟨s.toArray⟩) := by
  obtain ⟨ps, ⟨g', t', cs, fuel, p, q, hg', ht', hvar, hd, _, _⟩, _⟩ := h
  obtain rfl := Option.some.inj (hg.symm.trans hg')
  obtain rfl := Option.some.inj (hty.symm.trans ht')
  obtain ⟨xs, m, rfl, hx, hl, hxl, hi⟩ := DataW.trod_array ht hd
  intro j s hj
  have hx1 : ss.map (fun s => (DataW.lit (.string s) : DataW Unit)) = xs.map (·.1) := by simpa using congrArg Prod.fst hx
  have hlen : ss.length = xs.length := by simpa using congrArg List.length hx1
  have hjs : j < ss.length := (List.getElem?_eq_some_iff.1 hj).1
  have h2 := hi j (by omega)
  have h3 : xs[j]? = some (xs[j]'(by omega)) := List.getElem?_eq_getElem (by omega)
  rw [hce, Nat.mul_one, h3] at h2
  obtain ⟨b, hb, hx2, _⟩ := DataW.trod_string he h2
  have h4 := congrArg (·[j]?) hx1
  simp only [List.getElem?_map, hj, h3, hx2, Option.map_some, Option.some.injEq, DataW.lit.injEq, Lit.string.injEq] at h4
  rw [World.var?_cell hg hvar j]
  have h5 := congrArg (·[0]?) hb
  simp only [List.getElem?_take, List.getElem?_drop, Nat.add_zero, List.getElem?_cons_zero] at h5
  rw [if_pos (by omega)] at h5
  rw [← Array.getElem?_toList, h5, h4]

/-- What each row lists. -/
abbrev L9 : List (String × DataW Unit) := [("math/bits.deBruijn32tab", Rows.laid_math_bits_deBruijn32tab), ("math/bits.deBruijn64tab", Rows.laid_math_bits_deBruijn64tab), ("internal/strconv.uint64pow10", Rows.laid_internal_strconv_uint64pow10), ("unicode/utf8.acceptRanges", Rows.laid_unicode_utf8_acceptRanges), ("strconv.ErrRange", Rows.laid_strconv_ErrRange), ("strconv.ErrSyntax", Rows.laid_strconv_ErrSyntax), ("besom/script.words", Rows.laid_besom_script_words), ("besom/script.many", Rows.laid_besom_script_many), ("unicode/utf8.first", Rows.laid_unicode_utf8_first)]
theorem star : "*" ++ "errors.errorString" = "*errors.errorString" := by decide
theorem rowErr (u : TypeId) (h : Tryd.prog.typeName? 3 u = some "*errors.errorString") : u = 90 :=
  typeName_ptr_named (nm := "errors.errorString") (by rw [star]; kernel_rfl) (by kernel_rfl) (by decide) u (by rw [star]; exact h)
theorem cellsE : Tryd.prog.cellsOf 92 = 1 := by kernel_rfl
theorem cellsS : Tryd.prog.cellsOf 9 = 1 := by kernel_rfl
theorem cellsI : Tryd.prog.cellsOf 3 = 1 := by kernel_rfl
theorem cellsU : Tryd.prog.cellsOf 75 = 1 := by kernel_rfl

theorem tabs_of_laid {W : World} (hL : laidMetH Tryd.prog L9 W) (hS : W.ShapedOpen Tryd.prog) : Tabs W ∧ Errs W := by
  have h0 : laidMet Tryd.prog L9 W := hL
  have h2 := h0.tail.tail
  have h4 := h2.tail.tail
  have h5 := h4.tail
  have h6 := h5.tail
  have h7 := h6.tail
  have hp : Lib.TabIs Tryd.prog W "internal/strconv.uint64pow10" .u64 Lib.pow10Tab := Lib.tabIs_of_head (rest := L9.drop 3) gPow (by kernel_rfl) Tryd.underlying94 Tryd.underlying75 cellsU (by kernel_rfl) h2
  have gm : Tryd.prog.globalNamed "besom/script.many" = some 1 := by kernel_rfl
  have hm : Lib.TabIs Tryd.prog W "besom/script.many" .i64 (manyL.map fun n : Nat => (n : Int)) := Lib.tabIs_of_head (rest := L9.drop 8) gm (by kernel_rfl) Tryd.underlying45 Tryd.underlying3 cellsI (by kernel_rfl) h7
  have hw := strs_of_laid (ss := wordsL) (rest := L9.drop 7) (g := 0) (by kernel_rfl) (by kernel_rfl) Tryd.underlying44 Tryd.underlying9 cellsS h6
  obtain ⟨a3, s3, hv3, _⟩ := laid_sentinel (g := 3) h4 (by kernel_rfl) (by kernel_rfl) Tryd.underlying47 rowErr Tryd.underlying90 Tryd.underlying92 rfl rfl Tryd.underlying9 cellsE cellsS
  obtain ⟨a2, s2, hv2, _⟩ := laid_sentinel (g := 2) h5 (by kernel_rfl) (by kernel_rfl) Tryd.underlying47 rowErr Tryd.underlying90 Tryd.underlying92 rfl rfl Tryd.underlying9 cellsE cellsS
  have c2 := World.var?_cell (by kernel_rfl : Tryd.prog.globalNamed "strconv.ErrSyntax" = some 2) hv2 0
  have c3 := World.var?_cell (by kernel_rfl : Tryd.prog.globalNamed "strconv.ErrRange" = some 3) hv3 0
  have hx := Go.Proofs.cell_of_shapedOpen_int (g := 4) (zero := #[.int .i64 0]) (t := 3) hS (of_decide_eq_true (by kernel_rfl)) (by kernel_rfl) rfl (by kernel_rfl) (by kernel_rfl) Tryd.underlying3
  obtain ⟨ps, ⟨g9, t9, cs9, f9, p9, q9, hg9, _, hv9, _, _, _⟩, _⟩ := h0.tail
  have e9 : g9 = 9 := Option.some.inj (hg9.symm.trans (by kernel_rfl : Tryd.prog.globalNamed "math/bits.deBruijn64tab" = some 9))
  subst e9
  refine ⟨⟨hw, ?_, hx, hp, ?_⟩, ⟨_, _, c2⟩, ⟨_, _, c3⟩⟩
  · intro j n hj
    have hjl : j < manyL.length := (List.getElem?_eq_some_iff.1 hj).1
    rw [hm.cell gm j (by rw [List.length_map]; exact hjl), List.getD_eq_getElem?_getD, List.getElem?_map, hj]
    rfl
  · unfold World.var? at hv9
    rw [hg9] at hv9
    simp only [Option.bind_some] at hv9
    rcases Nat.lt_or_ge 9 W.heap.size with h | h
    · omega
    · rw [Array.getElem?_eq_none h] at hv9
      cases hv9

/-- The cells of a datum of numbers and words. -/
def cells1 : DataW Unit → List Value
  | .lit (.int k z) => [.int k z]
  | .lit (.string b) => [.string ⟨b.toArray⟩]
  | _ => []
def cells2 : DataW Unit → List Value
  | .agg l => l.flatMap fun d => match d with
    | .agg l2 => l2.flatMap cells1
    | d => cells1 d
  | d => cells1 d
noncomputable def put (h : Array Obj) (g : Nat) (cs : Array Value) : Array Obj := h.modify g fun
  | .cells _ t frozen => .cells cs t frozen
  | o => o
def outOfRange : ByteArray := ⟨#[118, 97, 108, 117, 101, 32, 111, 117, 116, 32, 111, 102, 32, 114, 97, 110, 103, 101]⟩
def invalidSyntax : ByteArray := ⟨#[105, 110, 118, 97, 108, 105, 100, 32, 115, 121, 110, 116, 97, 120]⟩
/-- A world that holds what is listed. -/
noncomputable def laidWorld (os : Os) : World :=
  let N := (World.settled Tryd.prog os).heap.size
  let w0 := World.holding Tryd.prog os ⟨#[.cells #[.string outOfRange] 92, .cells #[.string invalidSyntax] 92], #[], []⟩
  let h0 := put (put w0.heap 3 #[.iface 90 (.pointer (some ⟨N, 0, none⟩))]) 2 #[.iface 90 (.pointer (some ⟨N + 1, 0, none⟩))]
  let h1 := put (put h0 0 (cells2 Rows.laid_besom_script_words).toArray) 1 (cells2 Rows.laid_besom_script_many).toArray
  let h2 := put (put h1 5 (cells2 Rows.laid_internal_strconv_uint64pow10).toArray) 6 (cells2 Rows.laid_unicode_utf8_first).toArray
  let h3 := put (put h2 7 (cells2 Rows.laid_unicode_utf8_acceptRanges).toArray) 8 (cells2 Rows.laid_math_bits_deBruijn32tab).toArray
  { w0 with heap := put h3 9 (cells2 Rows.laid_math_bits_deBruijn64tab).toArray }
set_option maxRecDepth 1000000 in
theorem laid_met (os : Os) (args : Array Value) : laidMet Tryd.prog L9 ((laidWorld os).forCall (fun _ _ => 0) ⟨#[], args, []⟩).memory :=
  laidMet_of_run' 10 (by kernel_rfl) (by kernel_rfl)

section
variable {H : Type} {enc : TypeId × Value → H}
theorem cells_nums : Tryd.prog.cellsOf 23 = 4 := by kernel_rfl
theorem cells_entry : Tryd.prog.cellsOf 25 = 5 := by kernel_rfl
theorem one_int {W : World} {n : Nat} {cs : List Value} {x : DataW H × List MemPlace} (h : DataW.trod enc Tryd.prog W 0 (fun _ => true) true n 3 cs = some x) : ∃ z, cs = [.int .i64 z] ∧ (Lit.int .i64 z).wf = true := by
  obtain ⟨z, hz, _, hw⟩ := DataW.trod_int Tryd.underlying3 h
  exact ⟨z, hz, hw⟩
theorem len_five : ∀ cs : List Value, cs.length = 5 → ∃ p0 p1 p2 p3 p4, cs = [p0, p1, p2, p3, p4]
  | [a, b, c, d, e], _ => ⟨a, b, c, d, e, rfl⟩
set_option maxRecDepth 100000 in
theorem open_entry {W : World} {base : Nat} {v : Value} {d : DataW H} {p : List MemPlace} (hv : Value.okWide Tryd.prog W .any base 25 v) (h : DataW.Trod enc Tryd.prog W 0 (fun _ => true) true 25 v d p) :
    ∃ e : Ent, v = e.val ∧ e.in64 := by
  obtain ⟨cs, rfl, hsz⟩ := okWide_struct Tryd.underlying25 hv
  obtain ⟨fuel, hf⟩ := h
  obtain ⟨y0, y1, m, _, hl, h0, h1⟩ := trod_struct2 Tryd.underlying25 hf
  obtain ⟨z, hz, wz⟩ := one_int h0
  obtain ⟨xs, k, _, _, hl2, hxl, hi⟩ := DataW.trod_array Tryd.underlying23 h1
  rw [cellsI] at hi
  have hlen : cs.toList.length = 5 := hl.trans cells_entry
  obtain ⟨p0, p1, p2, p3, p4, hc⟩ := len_five _ hlen
  have each : ∀ i, i < 4 → ∃ x, ((([p1, p2, p3, p4] : List Value).drop (i * 1)).take 1) = [.int .i64 x] ∧ (Lit.int .i64 x).wf = true := by
    intro i h
    have hr := hi i h
    have hx : xs[i]? = some xs[i] := List.getElem?_eq_getElem (by omega)
    rw [hx] at hr
    obtain ⟨x, hx, wx⟩ := one_int hr
    refine ⟨x, ?_, wx⟩
    rw [← hx]
    show _ = ((((cs.toList).drop 1).take (Tryd.prog.cellsOf 23)).drop (i * 1)).take 1
    rw [cells_nums, hc]
    rfl
  obtain ⟨x0, e0, w0⟩ := each 0 (by omega)
  obtain ⟨x1, e1, w1⟩ := each 1 (by omega)
  obtain ⟨x2, e2, w2⟩ := each 2 (by omega)
  obtain ⟨x3, e3, w3⟩ := each 3 (by omega)
  have hz' : ((cs.toList.drop 0).take (Tryd.prog.cellsOf 3)) = [.int .i64 z] := hz
  rw [cellsI, hc] at hz'
  simp at e0 e1 e2 e3 hz'
  subst e0 e1 e2 e3 hz'
  refine ⟨⟨z, x0, x1, x2, x3⟩, ?_, ?_⟩
  · show Value.agg cs = .agg _
    rw [← Array.toArray_toList (xs := cs), hc]
  · intro x hx
    have hx' : x = x0 ∨ x = x1 ∨ x = x2 ∨ x = x3 := by simpa [Ent.ns] using hx
    rcases hx' with rfl | rfl | rfl | rfl
    · exact bounds_i64 w0
    · exact bounds_i64 w1
    · exact bounds_i64 w2
    · exact bounds_i64 w3
end
end Go.Proofs.YtlphlaenecidiaaDoor.Scr
