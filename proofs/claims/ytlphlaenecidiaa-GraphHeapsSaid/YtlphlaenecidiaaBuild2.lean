/- A told graph in memory; besomlaw11.Few. -/
import Derived.Test.YtlphlaenecidiaaBuild1
import Derived.Test.YtlphlaenecidiaaRefWrite
namespace Go.Proofs.Ytlphlaenecidiaa.Build
open Go.RowKit Go.Proofs.Ytlphlaenecidiaa.Mem Go.Proofs.Ytlphlaenecidiaa.Obj Go.Proofs.Ytlphlaenecidiaa.Ref Go.Proofs.Ytlphlaenecidiaa.Heap

/-- Bytes that came in. -/
def Bytes (w : World) (a : Option Addr) (xs : List Nat) : Prop := ∀ (j x : Nat), xs[j]? = some x → ∃ b off, a = some ⟨b, off, none⟩ ∧ w.cell? ⟨b, off + j, none⟩ = some (.int .u8 (x : Int)) ∧ b < w.heap.size ∧ x < 256
theorem Bytes.quiet {w w' : World} {a : Option Addr} {xs : List Nat} (h : Bytes w a xs) (u : Upd (fun _ => False) w w') : Bytes w' a xs := fun j x hj => by
  obtain ⟨b, off, e, h1, h2, h3⟩ := h j x hj
  refine ⟨b, off, e, ?_, Nat.lt_of_lt_of_le h2 u.size, h3⟩
  rw [World.cell?, u.block b h2 (fun h => h)]
  exact h1
/-- The nodes of a graph that came in. -/
def NodesIn (w : World) (na : Option Addr) (ns : List GNd) : Prop := ∀ (i : Nat) (n : GNd), ns[i]? = some n → ∃ b off ea ec, na = some ⟨b, off, none⟩ ∧ b < w.heap.size ∧ w.cell? ⟨b, off + i * 3, none⟩ = some (.int .u8 (n.kind : Int)) ∧
  w.cell? ⟨b, off + i * 3 + 1, none⟩ = some (.slice ea n.edges.length ec) ∧ w.cell? ⟨b, off + i * 3 + 2, none⟩ = some (.int .u8 (n.more : Int)) ∧ Bytes w ea n.edges ∧ n.kind < 256 ∧ n.more < 256
theorem NodesIn.quiet {w w' : World} {a : Option Addr} {ns : List GNd} (h : NodesIn w a ns) (u : Upd (fun _ => False) w w') : NodesIn w' a ns := fun i n hi => by
  obtain ⟨b, off, ea, ec, e, h1, h2, h3, h4, h5, h6⟩ := h i n hi
  have one : ∀ (o : Nat) (v : Value), w.cell? ⟨b, o, none⟩ = some v → w'.cell? ⟨b, o, none⟩ = some v := fun o v hc => by
    rw [World.cell?, u.block b h1 (fun h => h)]
    exact hc
  exact ⟨b, off, ea, ec, e, Nat.lt_of_lt_of_le h1 u.size, one _ _ h2, one _ _ h3, one _ _ h4, h5.quiet u, h6⟩
/-- A graph that isn't great. -/
def Few (ns : List GNd) (rs : List Nat) : Prop := (∀ n ∈ ns, n.edges.length ≤ 10) ∧ ns.length ≤ 14 ∧ rs.length ≤ 14
abbrev gv (na : Option Addr) (n nc : Nat) (ra : Option Addr) (m rc : Nat) : Value := .agg #[.slice na n nc, .slice ra m rc]

/-- The loop. -/
def Fewing (ns : List GNd) (i : Value) (w wr : World) : Prop := ∃ k : Nat, k ≤ ns.length ∧ i = .int .i64 (k : Int) ∧ (∀ n ∈ ns.take k, n.edges.length ≤ 10) ∧ Upd (fun _ => False) w wr

theorem ret_bool {a b : Bool} (h : a = b) : Ending.returned (.bool a) = .returned (.bool b) := by rw [h]
open Classical in
set_option maxHeartbeats 1000000 in
theorem few_any (w : World) (na ra : Option Addr) (nc rc : Nat) (ns : List GNd) (m : Nat) (hn : NodesIn w na ns) (hnl : ns.length ≤ 9223372036854775807) (hml : m ≤ 9223372036854775807) :
    Calls Try.prog 15 #[gv na ns.length nc ra m rc] w fun e w' => e = .returned (.bool (decide ((∀ n ∈ ns, n.edges.length ≤ 10) ∧ ns.length ≤ 14 ∧ m ≤ 14))) ∧ Upd (fun _ => False) w w' := by
  obtain ⟨r, hr⟩ : ∃ r, r = decide ((∀ n ∈ ns, n.edges.length ≤ 10) ∧ ns.length ≤ 14 ∧ m ≤ 14) := ⟨_, rfl⟩
  rw [← hr]
  have HR := Lib.hid hr
  have hB := Blk.made w [.slice na ns.length nc, .slice ra m rc] 46
  have hu := ((Upd.refl (fun _ => False) w).alloc (.cells #[.slice na ns.length nc, .slice ra m rc] 46))
  have HB := Lib.hid hB
  have HU := Lib.hid hu
  have HN := Lib.hid hn
  clear hr hB hu hn
  go_enter Try.func15, Try.ntmps15
  go_wp2
  go_loopw [8] (fun i wr => Fewing ns i w wr ∧ Blk wr w.heap.size [.slice na ns.length nc, .slice ra m rc] 46) (fun i _ => ns.length - (intOf i).toNat)
  case atStart => exact ⟨⟨0, Nat.zero_le _, rfl, (fun n h => by simp at h), HU.out⟩, HB.out⟩
  case round =>
    obtain ⟨⟨k, hk, rfl, hall, hU⟩, hB⟩ := hrel
    have b0 := hB.cell 0 rfl
    have b1 := hB.cell 1 rfl
    have bl := hB.lt
    have HBr := Lib.hid hB
    have HUr := Lib.hid hU
    have HAl := Lib.hid hall
    by_cases hlk : k < ns.length
    · obtain ⟨n, hnk⟩ : ∃ n, ns[k]? = some n := ⟨_, List.getElem?_eq_getElem hlk⟩
      obtain ⟨b, off, ea, ec, rfl, hbl, c0, c1, c2, hby, hkk, hmm⟩ := (HN.out.quiet hU) k n hnk
      have d1 : decide ((k : Int) < (ns.length : Int)) = true := decide_eq_true (by omega)
      have d1' : decide (k < ns.length) = true := decide_eq_true hlk
      have i1 : (0 : Int) ≤ (k : Int) := by omega
      have i2 : (k : Int) < (ns.length : Int) := by omega
      have HNk := Lib.hid hnk
      clear hnk hB hU hall hby
      by_cases hel : 10 < n.edges.length
      · have d2 : decide ((10 : Int) < (n.edges.length : Int)) = true := decide_eq_true (by omega)
        have d2' : decide (10 < n.edges.length) = true := decide_eq_true hel
        go_wp2
        go_ret
        refine ⟨ret_bool ?_, HUr.out.alloc _⟩
        rw [HR.out]
        exact (decide_eq_false (fun h => absurd (h.1 n (List.mem_of_getElem? HNk.out)) (by omega))).symm
      · have d2 : decide ((10 : Int) < (n.edges.length : Int)) = false := decide_eq_false (by omega)
        have d2' : decide (10 < n.edges.length) = false := decide_eq_false hel
        go_wp2
        go_roundw
        case rel =>
          refine ⟨⟨k + 1, by omega, by go_num, fun q hq => ?_, HUr.out.alloc _⟩, HBr.out.alloc _⟩
          rw [List.take_add_one, HNk.out, Option.toList_some] at hq
          rcases List.mem_append.1 hq with hq | hq
          · exact HAl.out q hq
          · rw [List.mem_singleton] at hq
            subst hq
            omega
        case measure => simp [intOf]; omega
    · have hke : k = ns.length := by omega
      subst hke
      have hall2 := HAl.out
      rw [List.take_length] at hall2
      have HA2 := Lib.hid hall2
      clear hB hU hall hall2
      by_cases h1 : ns.length ≤ 14
      · by_cases h2 : m ≤ 14
        · have d3 : decide ((ns.length : Int) ≤ 14) = true := decide_eq_true (by omega)
          have d3' : decide (ns.length ≤ 14) = true := decide_eq_true h1
          have d4 : decide ((m : Int) ≤ 14) = true := decide_eq_true (by omega)
          have d4' : decide (m ≤ 14) = true := decide_eq_true h2
          go_wp2
          go_ret
          exact ⟨ret_bool (by rw [HR.out]; exact (decide_eq_true ⟨HA2.out, h1, h2⟩).symm), HUr.out⟩
        · have d3 : decide ((ns.length : Int) ≤ 14) = true := decide_eq_true (by omega)
          have d3' : decide (ns.length ≤ 14) = true := decide_eq_true h1
          have d4 : decide ((m : Int) ≤ 14) = false := decide_eq_false (by omega)
          have d4' : decide (m ≤ 14) = false := decide_eq_false h2
          go_wp2
          go_ret
          exact ⟨ret_bool (by rw [HR.out]; exact (decide_eq_false (fun h => h2 h.2.2)).symm), HUr.out⟩
      · have d3 : decide ((ns.length : Int) ≤ 14) = false := decide_eq_false (by omega)
        have d3' : decide (ns.length ≤ 14) = false := decide_eq_false h1
        go_wp2
        go_ret
        exact ⟨ret_bool (by rw [HR.out]; exact (decide_eq_false (fun h => h1 h.2.1)).symm), HUr.out⟩
end Go.Proofs.Ytlphlaenecidiaa.Build
