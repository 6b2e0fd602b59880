/- graph.Form.Words: how many words a form has. -/
import Derived.Test.YtlphlaenecidiaaIs
namespace Go.Proofs.Ytlphlaenecidiaa.Ref
open Go.RowKit Go.Proofs.Ytlphlaenecidiaa.Mem Go.Proofs.Ytlphlaenecidiaa.Obj

/-- How many words nodes have. -/
def nwords : List Nd → Nat
  | [] => 0
  | n :: l => 1 + n.edges.length + n.words.length + nwords l
theorem nwords_append (a b : List Nd) : nwords (a ++ b) = nwords a + nwords b := by
  induction a with
  | nil => simp [nwords]
  | cons n a ih => rw [List.cons_append, nwords, nwords, ih]; omega
theorem nwords_take {l : List Nd} {k : Nat} {n : Nd} (h : l[k]? = some n) : nwords (l.take (k + 1)) = nwords (l.take k) + (1 + n.edges.length + n.words.length) := by
  rw [List.take_add_one, h, Option.toList_some, nwords_append, nwords, nwords]; omega
theorem nwords_take_le (l : List Nd) (k : Nat) : nwords (l.take k) ≤ nwords l := by
  conv => rhs; rw [← List.take_append_drop k l]
  rw [nwords_append]; omega

set_option maxHeartbeats 1000000 in
theorem words_wide (w : World) (va vn : Value) (m : Nat) (ac : Nat) (aa : Option Addr) (hva : va = .slice aa m ac) (nds : List Nd) (hn : NodesAt w vn nds) (hb : nwords nds ≤ 1152921504606846976) (hl : nds.length ≤ 1152921504606846976) :
    Calls Try.prog 18 #[.agg #[va, vn]] w fun e w' => e = .returned (.int .i64 (nwords nds : Int)) ∧ Upd (fun _ => False) w w' := by
  subst hva
  obtain ⟨na, nc, rfl⟩ := hn.form
  have HB := Lib.hid (Blk.made w [.slice aa m ac, .slice na nds.length nc] 35)
  have hu := ((Upd.refl (fun _ => False) w).alloc (.cells #[.slice aa m ac, .slice na nds.length nc] 35))
  have HU := Lib.hid hu
  have HN := Lib.hid hn
  have HBd := Lib.hid hb
  clear hu hn hb
  go_enter Try.func18, Try.ntmps18
  go_wp2
  go_loopw [3, 9] (fun s i wr => ∃ k : Nat, k ≤ nds.length ∧ i = .int .i64 (k : Int) ∧ s = .int .i64 (nwords (nds.take k) : Int) ∧ Upd (fun _ => False) w wr) (fun _ i _ => nds.length - (intOf i).toNat)
  case atStart => exact ⟨0, Nat.zero_le _, rfl, rfl, HU.out⟩
  case round =>
    obtain ⟨k, hk, rfl, rfl, hU⟩ := hrel
    have HUr := Lib.hid hU
    by_cases hlk : k < nds.length
    · obtain ⟨n, hnk⟩ : ∃ n, nds[k]? = some n := ⟨_, List.getElem?_eq_getElem hlk⟩
      obtain ⟨a', c', e', hx⟩ := HN.out.quiet hU
      cases e'
      obtain ⟨b, o, ve, vw, rfl, hbl, c0, c1, c2, he, hw⟩ := hx k n hnk
      obtain ⟨ea, ec, rfl⟩ := he.form
      obtain ⟨wa, wc, rfl⟩ := hw.form
      have d1 : decide ((k : Int) < (nds.length : Int)) = true := decide_eq_true (by omega)
      have d1' : decide (k < nds.length) = true := decide_eq_true hlk
      have i1 : (0 : Int) ≤ (k : Int) := by omega
      have i2 : (k : Int) < (nds.length : Int) := by omega
      have htk := nwords_take hnk
      have hle := nwords_take_le nds (k + 1)
      have hbd := HBd.out
      obtain ⟨T, hT⟩ : ∃ T, T = nwords (nds.take k) := ⟨_, rfl⟩
      rw [← hT] at htk ⊢
      have b1 : T ≤ 1152921504606846976 := by omega
      have b2 : n.edges.length ≤ 1152921504606846976 := by omega
      have b3 : n.words.length ≤ 1152921504606846976 := by omega
      have HTk := Lib.hid htk
      clear hU hx he hw hnk htk hle hbd hT
      go_wp2
      go_roundw
      case rel =>
        refine ⟨k + 1, by omega, by go_num, ?_, HUr.out.alloc _⟩
        rw [HTk.out]
        go_num
      case measure => simp [intOf]; omega
    · have hke : k = nds.length := by omega
      subst hke
      rw [List.take_length]
      clear hU
      go_wp2
      go_ret
      exact ⟨rfl, HUr.out⟩
theorem words_any (w : World) (va vn : Value) (m : Nat) (ac : Nat) (aa : Option Addr) (hva : va = .slice aa m ac) (nds : List Nd) (hn : NodesAt w vn nds) (hb : nwords nds ≤ 1000000000) (hl : nds.length ≤ 1000000000) :
    Calls Try.prog 18 #[.agg #[va, vn]] w fun e w' => e = .returned (.int .i64 (nwords nds : Int)) ∧ Upd (fun _ => False) w w' :=
  words_wide w va vn m ac aa hva nds hn (by omega) (by omega)
end Go.Proofs.Ytlphlaenecidiaa.Ref
