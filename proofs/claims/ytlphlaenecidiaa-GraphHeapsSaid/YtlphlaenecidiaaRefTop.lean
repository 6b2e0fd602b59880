/- The document's heap: how many words are taken. -/
import Derived.Test.YtlphlaenecidiaaRef3
namespace Go.Proofs.Ytlphlaenecidiaa.Ref
open Go.RowKit Go.Proofs.Ytlphlaenecidiaa.Mem Go.Proofs.Ytlphlaenecidiaa.Obj

theorem top_take {os : List Ob} {k : Nat} {o : Ob} (h : os[k]? = some o) : top (os.take (k + 1)) = top (os.take k) + (1 + o.len) := by
  rw [List.take_add_one, h, Option.toList_some, top_append, top_cons, top_nil]; omega
theorem top_take_le (os : List Ob) (k : Nat) : top (os.take k) ≤ top os := by
  conv => rhs; rw [← List.take_append_drop k os]
  rw [top_append]; omega
/-- The loop. -/
def Adding (os : List Ob) (n i : Value) : Prop := ∃ k : Nat, k ≤ os.length ∧ i = .int .i64 (k : Int) ∧ n = .int .i64 (top (os.take k) : Int)

theorem ret_int {a b : Int} (h : a = b) : Ending.returned (.int .i64 a) = .returned (.int .i64 b) := by rw [h]

set_option maxHeartbeats 1000000 in
theorem rtop_any (w : World) (base size : Nat) (v : Value) (os : List Ob) (R : RefAt w base v os) (ht : top os ≤ 1000000) :
    Calls Try.prog 53 #[hv size v] w fun e w' => e = .returned (.int .i64 (top os : Int)) ∧ Upd (fun _ => False) w w' := by
  obtain ⟨va, vc, rfl⟩ := R.form
  have hf := R.few
  have hbx := Blk.made w [.int .i64 (size : Int), .slice va os.length vc] 30
  have hu := ((Upd.refl (fun _ => False) w).alloc (.cells #[.int .i64 (size : Int), .slice va os.length vc] 30))
  have HU := Lib.hid hu
  have HR := Lib.hid (R.quiet hu)
  have HT := Lib.hid ht
  clear hbx hu R ht
  go_enter Try.func53, Try.ntmps53
  go_wp2
  go_loop [3, 8] (fun n i => Adding os n i) (fun _ i => os.length - (intOf i).toNat)
  case atStart => exact ⟨0, Nat.zero_le _, rfl, rfl⟩
  case round =>
    obtain ⟨k, hk, rfl, rfl⟩ := hrel
    by_cases hlk : k < os.length
    · obtain ⟨o, ho⟩ : ∃ o, os[k]? = some o := ⟨_, List.getElem?_eq_getElem hlk⟩
      obtain ⟨g, cap, he, _, hgl⟩ := HR.out.some' (by omega)
      cases he
      obtain ⟨a, wv, ha, _, e1, e2, e3, e4, e5⟩ := HR.out.at' ho
      have d1 : decide ((k : Int) < (os.length : Int)) = true := decide_eq_true (by omega)
      have d1' : decide (k < os.length) = true := decide_eq_true hlk
      have htk := top_take ho
      have htl := top_take_le os (k + 1)
      have htT := HT.out
      obtain ⟨S, hS⟩ : ∃ S, S = top (os.take k) := ⟨_, rfl⟩
      rw [← hS] at htk ⊢
      have hb1 : S ≤ 1000000 := by omega
      have hb2 : o.len ≤ 1000000 := by omega
      have i1 : (0 : Int) ≤ (k : Int) := by omega
      have i2 : (k : Int) < (os.length : Int) := by omega
      have HTk := Lib.hid htk
      have HAd := Lib.hid ha
      have HS := Lib.hid hS
      clear ho ha htk hS htl htT e1 e2 e4 e5
      go_wp2
      go_round
      case rel =>
        refine ⟨k + 1, by omega, by go_num, ?_⟩
        rw [HTk.out]
        go_num
      case measure => simp [intOf]; omega
    · have hke : k = os.length := by omega
      subst hke
      go_wp2
      go_ret
      exact ⟨rfl, HU.out⟩
end Go.Proofs.Ytlphlaenecidiaa.Ref
