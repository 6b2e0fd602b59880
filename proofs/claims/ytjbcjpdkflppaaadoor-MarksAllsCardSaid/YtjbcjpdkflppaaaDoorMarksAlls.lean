/- All places that are set are told, rising, no further than is asked; cleared there are none: the walk of besomlaw04.MarksAlls. -/
import Derived.Test.YtjbcjpdkflppaaaDoorAll
import Derived.Test.YtjbcjpdkflppaaaDoorRow
namespace Go.Proofs.YtjbcjpdkflppaaaDoor.MarksAlls
open Go.RowKit Go.Proofs.YtjbcjpdkflppaaaDoor.Mem Go.Proofs.YtjbcjpdkflppaaaDoor.Pop Go.Proofs.YtjbcjpdkflppaaaDoor.Marks

/-- Which places are set, as cells. -/
def inCells (ws : List Nat) (n : Nat) : List Value := (List.range n).map fun i => Value.bool (has ws i)
theorem inCells_get {ws : List Nat} {n i : Nat} (h : i < n) : (inCells ws n)[i]? = some (.bool (has ws i)) := by simp [inCells, h]
theorem inCells_len (ws : List Nat) (n : Nat) : (inCells ws n).length = n := by simp [inCells]
theorem inCells_put {ws : List Nat} {n x : Nat} (hx : x < n) (hw : x / 64 < ws.length) : (inCells ws n).set x (.bool true) = inCells (put ws x) n := by
  apply List.ext_getElem?
  intro i
  rw [List.getElem?_set, inCells_len]
  by_cases hi : i < n
  · rw [inCells_get hi, inCells_get hi, has_put hw]
    by_cases e : x = i
    · subst e; rw [if_pos rfl, if_pos hi]; simp
    · have : decide (i = x) = false := decide_eq_false (fun h => e h.symm)
      rw [if_neg e, this, Bool.false_or]
  · rw [List.getElem?_eq_none (by rw [inCells_len]; omega), List.getElem?_eq_none (by rw [inCells_len]; omega)]
    by_cases e : x = i
    · subst e; omega
    · rw [if_neg e]

theorem ct_put {ws : List Nat} {k : Nat} (hk : k / 64 < ws.length) : ∀ m, ct (put ws k) m = ct ws m + (if k < m ∧ has ws k = false then 1 else 0)
  | 0 => by simp [ct]
  | m + 1 => by
    have ih := ct_put hk m
    simp only [ct, ih, has_put hk]
    by_cases h1 : m = k
    · subst h1
      cases hb : has ws m <;> simp
    · have e1 : decide (m = k) = false := decide_eq_false h1
      rw [e1, Bool.false_or]
      by_cases h2 : k < m
      · have h3 : k < m + 1 := by omega
        simp only [h2, h3, true_and]
        omega
      · have h3 : ¬ k < m + 1 := by omega
        simp [h2, h3]

theorem ct_all {ws : List Nat} {p : Nat} (h : ∀ i, p ≤ i → has ws i = false) : ∀ q, p ≤ q → ct ws q = ct ws p
  | 0, hq => by rw [show p = 0 by omega]
  | q + 1, hq => by
    by_cases e : p = q + 1
    · rw [e]
    · simp only [ct, ct_all h q (by omega), h q (by omega)]
      rfl
theorem ct_same {ws : List Nat} {p n : Nat} (hp : ∀ i, p ≤ i → has ws i = false) (hn : ∀ i, n ≤ i → has ws i = false) : ct ws p = ct ws n := by
  rcases Nat.le_total p n with h | h
  · exact (ct_all hp n h).symm
  · exact ct_all hn p h
theorem ct_next {ws : List Nat} {p q : Nat} (hpq : p ≤ q) (h : ∀ i, p ≤ i → i < q → has ws i = false) (hq : has ws q = true) : ct ws (q + 1) = ct ws p + 1 := by
  have e : ∀ q, p ≤ q → (∀ i, p ≤ i → i < q → has ws i = false) → ct ws q = ct ws p := by
    intro q
    induction q with
    | zero => intro hq _; rw [show p = 0 by omega]
    | succ q ih =>
      intro hq h
      by_cases e : p = q + 1
      · rw [e]
      · simp only [ct, ih (by omega) (fun i h1 h2 => h i h1 (by omega)), h q (by omega) (by omega)]
        rfl
  simp only [ct, e q hpq h, hq]
  rfl

set_option maxHeartbeats 1000000 in
theorem lam_any (w : World) (at' nb okb lb sb icb mb inb n c most : Nat) (last : Int) (ws : List Nat) (hn : Blk w nb [.int .i64 (c : Int)] 3) (hok : Blk w okb [.bool true] 4) (hl : Blk w lb [.int .i64 last] 3)
    (hs : Blk w sb [.int .u8 (n : Int)] 5) (hic : Blk w icb [.slice (some ⟨inb, 0, none⟩) n n] 40) (hm : Blk w mb [.int .u8 (most : Int)] 5) (hin : Blk w inb (inCells ws n) 4)
    (hat : at' < n) (hon : has ws at' = true) (hlast : last < (at' : Int)) (hn1 : n ≤ 255) (hc : c ≤ 255) (hm1 : most ≤ 255) (d : nb ≠ okb ∧ nb ≠ lb ∧ okb ≠ lb ∧ nb ≠ sb ∧ nb ≠ icb ∧ nb ≠ mb ∧ nb ≠ inb ∧ okb ≠ sb ∧ okb ≠ icb ∧ okb ≠ mb ∧ okb ≠ inb ∧ lb ≠ sb ∧ lb ≠ icb ∧ lb ≠ mb ∧ lb ≠ inb) :
    Calls Tryd.prog 15 #[.int .i64 (at' : Int), .pointer (some ⟨nb, 0, none⟩), .pointer (some ⟨okb, 0, none⟩), .pointer (some ⟨lb, 0, none⟩), .pointer (some ⟨sb, 0, none⟩), .pointer (some ⟨icb, 0, none⟩), .pointer (some ⟨mb, 0, none⟩)] w fun e w' =>
      e = .returned (.bool (decide (c + 1 < most))) ∧ Blk w' nb [.int .i64 ((c + 1 : Nat) : Int)] 3 ∧ Blk w' okb [.bool true] 4 ∧ Blk w' lb [.int .i64 (at' : Int)] 3 ∧ Upd (fun k => k = nb ∨ k = okb ∨ k = lb) w w' := by
  have c0 := hn.cell 0 rfl
  have f0 := hn.frozen 0
  have c1 := hok.cell 0 rfl
  have f1 := hok.frozen 0
  have c2 := hl.cell 0 rfl
  have f2 := hl.frozen 0
  have c3 := hs.cell 0 rfl
  have c4 := hic.cell 0 rfl
  have c5 := hm.cell 0 rfl
  have c6 := hin.cell at' (inCells_get hat)
  rw [hon] at c6
  have d1 : decide (last < (at' : Int)) = true := decide_eq_true hlast
  have d2 : decide ((at' : Int) < (n : Int)) = true := decide_eq_true (by omega)
  have d2' : decide (at' < n) = true := decide_eq_true hat
  have Hn := Lib.hid hn
  have Hok := Lib.hid hok
  have Hl := Lib.hid hl
  obtain ⟨e1, e2, e3, e4, e5, e6, e7, e8, e9, e10, e11, e12, e13, e14, e15⟩ := d
  clear hn hok hl hs hic hm hin hon hlast
  go_enter Tryd.func15, Tryd.ntmps15
  go_wp2
  go_ret
  refine ⟨?_, ?_, ?_, ?_, ?_⟩
  · show Ending.returned (Value.bool (decide ((c : Int) + 1 < (most : Int)))) = _
    congr 2
    exact decide_eq_decide.2 (by omega)
  · exact ((Hn.out.set 0 _).setOther _ e1).setOther _ e2
  · exact ((Hok.out.setOther _ (fun e => e1 e.symm)).set 0 (.bool true)).setOther _ e3
  · exact ((Hl.out.setOther _ (fun e => e2 e.symm)).setOther _ (fun e => e3 e.symm)).set 0 _
  · exact (((Upd.refl _ w).setCell _ (fun _ => .inl rfl)).setCell _ (fun _ => .inr (.inl rfl))).setCell _ (fun _ => .inr (.inr rfl))

structure Js (w0 : World) (b wb n most bb nb okb lb sb icb mb inb : Nat) (ws : List Nat) (p : Nat) (w : World) : Prop where
  map : MapAt w b wb n ws
  tab : Table w
  box : Blk w bb [.pointer (some ⟨b, 0, none⟩)] 24
  num : Blk w nb [.int .i64 ((ct ws p : Nat) : Int)] 3
  ok : Blk w okb [.bool true] 4
  last : ∃ l : Int, Blk w lb [.int .i64 l] 3 ∧ l < (p : Int)
  siz : Blk w sb [.int .u8 (n : Int)] 5
  ic : Blk w icb [.slice (some ⟨inb, 0, none⟩) n n] 40
  mst : Blk w mb [.int .u8 (most : Int)] 5
  inn : Blk w inb (inCells ws n) 4
  few : ct ws p = 0 ∨ ct ws p < most
  upd : Upd (fun _ => False) w0 w

/-- What is there behind all. -/
structure Fin (w0 : World) (b wb n most nb okb sb mb : Nat) (ws : List Nat) (w : World) : Prop where
  map : MapAt w b wb n ws
  tab : Table w
  num : ∃ N : Nat, Blk w nb [.int .i64 (N : Int)] 3 ∧ N = min (ct ws n) (max most 1)
  ok : Blk w okb [.bool true] 4
  siz : Blk w sb [.int .u8 (n : Int)] 5
  mst : Blk w mb [.int .u8 (most : Int)] 5
  upd : Upd (fun _ => False) w0 w

theorem Js.fin {w0 : World} {b wb n most bb nb okb lb sb icb mb inb : Nat} {ws : List Nat} {p : Nat} {w : World} (h : Js w0 b wb n most bb nb okb lb sb icb mb inb ws p w) (hp : ∀ i, p ≤ i → has ws i = false) (hn : ∀ i, n ≤ i → has ws i = false) : Fin w0 b wb n most nb okb sb mb ws w := by
  have e := ct_same hp hn
  have hf := h.few
  exact ⟨h.map, h.tab, ⟨ct ws p, h.num, by rw [← e]; omega⟩, h.ok, h.siz, h.mst, h.upd⟩

theorem yielder (w0 w : World) (b wb n most bb nb okb lb sb icb mb inb : Nat) (ws : List Nat) (hbd : ∀ i, n ≤ i → has ws i = false) (hn : n ≤ 255) (hm : most ≤ 255)
    (q0 : 0 < lb) (q1 : b < lb) (q2 : wb < lb) (q3 : sb < lb) (q4 : mb < lb) (q5 : icb < lb) (q6 : inb < lb) (q7 : lb < nb) (q8 : nb < okb) (q9 : okb < bb) (hlo : w0.heap.size ≤ lb) :
    Yielder ws w b wb n bb 15 #[.pointer (some ⟨nb, 0, none⟩), .pointer (some ⟨okb, 0, none⟩), .pointer (some ⟨lb, 0, none⟩), .pointer (some ⟨sb, 0, none⟩), .pointer (some ⟨icb, 0, none⟩), .pointer (some ⟨mb, 0, none⟩)]
      (Js w0 b wb n most bb nb okb lb sb icb mb inb ws) (Fin w0 b wb n most nb okb sb mb ws) := by
  refine ⟨(enters_of Tryd.func15 (by kernel_rfl) rfl), fun p w h => ⟨h.map, h.tab, h.box.cell 0 rfl⟩, ?_⟩
  intro p w at' h hp hno hat
  have hlt : at' < n := by
    rcases Nat.lt_or_ge at' n with h1 | h1
    · exact h1
    · rw [hbd at' h1] at hat; cases hat
  have hct := ct_next hp hno hat
  have hcl : ct ws n ≤ n := by have := ct_le ws 0 n; simp only [ct, Nat.zero_add] at this; exact this
  have hcm := ct_mono ws (show at' + 1 ≤ n by omega)
  obtain ⟨l, hl, hlp⟩ := h.last
  refine (lam_any w at' nb okb lb sb icb mb inb n (ct ws p) most l ws h.num h.ok hl h.siz h.ic h.mst h.inn hlt hat (by omega) hn (by omega) hm ⟨by omega, by omega, by omega, by omega, by omega, by omega, by omega, by omega, by omega, by omega, by omega, by omega, by omega, by omega, by omega⟩).mono ?_
  rintro e w' ⟨rfl, h1, h2, h3, hu⟩
  have hk : ∀ k, k < lb → ¬ (k = nb ∨ k = okb ∨ k = lb) := fun k h h' => by omega
  have hU := h.upd.next hu (by intro i hi h'; omega)
  have m1 := h.map.upd hu (hk _ q1) (hk _ q2)
  have m2 := h.tab.upd hu (hk _ q0)
  have m3 := h.siz.upd hu (hk _ q3)
  have m4 := h.mst.upd hu (hk _ q4)
  by_cases hmo : ct ws p + 1 < most
  · refine .inl ⟨by rw [decide_eq_true hmo], m1, m2, h.box.upd hu (by omega), ?_, h2, ⟨_, h3, by omega⟩, m3, h.ic.upd hu (hk _ q5), m4, h.inn.upd hu (hk _ q6), by omega, hU⟩
    rw [hct]; exact h1
  · refine .inr ⟨by rw [decide_eq_false hmo], m1, m2, ⟨ct ws p + 1, h1, ?_⟩, h2, m3, m4, hU⟩
    have hf := h.few
    omega

/-- Loop 1. -/
def Setting (w : World) (b wb n most icb inb m : Nat) (c i : Value) (wr : World) : Prop :=
  ∃ (k : Nat) (ws : List Nat), k ≤ m ∧ i = .int .i64 (k : Int) ∧ c = .int .i64 (ct ws n : Nat) ∧ MapAt wr b wb n ws ∧ (∀ j, n ≤ j → has ws j = false) ∧ Blk wr inb (inCells ws n) 4 ∧ Blk wr icb [.slice (some ⟨inb, 0, none⟩) n n] 40 ∧
    Blk wr w.heap.size [.int .u8 (n : Int)] 5 ∧ Blk wr (w.heap.size + 1) [.int .u8 (most : Int)] 5 ∧ Upd (fun _ => False) w wr

theorem infoBool : (Tryd.prog.info? 4).map (fun i => (i.zero, i.size, i.bytes)) = some (some (.bool false), 1, 1) := by kernel_rfl

attribute [local go_sem] max2_int min2_int max_two min_two
set_option maxRecDepth 200000 in
set_option maxHeartbeats 4000000 in
theorem law_yes (w : World) (hT : Table w) (n most : Nat) (a : Option Addr) (cap : Nat) (zs : List Nat) (hn0 : 1 ≤ n) (hn1 : n ≤ 255) (hz : U8s w a zs) (hl : zs.length ≤ 100) (hm1 : most ≤ 255) :
    Calls Tryd.prog 5 #[.int .u8 (n : Int), .slice a zs.length cap, .int .u8 (most : Int)] w fun e w' => e = .returned (.bool true) ∧ Below w.heap.size w w' := by
  have hT0 := Lib.hid hT
  clear hT
  have d1 : decide (100 < (zs.length : Int)) = false := decide_eq_false (by omega)
  have d1' : decide (100 < zs.length) = false := decide_eq_false (by omega)
  have d2 : ((n : Int) == 0) = false := beq_eq_false_iff_ne.2 (by omega)
  have d2' : (n == 0) = false := beq_eq_false_iff_ne.2 (by omega)
  have hmk := run_make_row' (P := Tryd.prog) 40 4 (.bool false) 1 Tryd.underlying40 infoBool rfl .u8 .u8 n (by omega) (by omega)
  have hmf : ∀ (fn : Fn) (first cap : Array Value) (w : World), (Instr.makeFunc fn first cap).run Tryd.prog w = .ok (.func fn first cap) w := fun _ _ _ _ => rfl
  go_enter Tryd.func5, Tryd.ntmps5
  go_wp2_with fail
  refine (awake _).mono ?_
  rintro e w1 ⟨rfl, hu1⟩
  have hs1 := ((Blk.made w [.int .u8 (n : Int)] 5).alloc (.cells #[.int .u8 (most : Int)] 5)).upd hu1 (fun h => h)
  have hm1' := (Blk.made' w (.cells #[.int .u8 (n : Int)] 5) [.int .u8 (most : Int)] 5).upd hu1 (fun h => h)
  have hU1 := (((Upd.refl (fun _ => False) w).alloc _).alloc _).trans hu1
  have c0 := hs1.cell 0 rfl
  clear hu1
  go_wp2_with fail
  refine (new_yes n _ hn0 (by omega)).mono ?_
  rintro e w2 ⟨b, wb, rfl, hM, hb, hwb, hu2⟩
  have hs2 := hs1.upd hu2 (fun h => h)
  have hm2 := hm1'.upd hu2 (fun h => h)
  have hU2 := hU1.trans hu2
  have hsz := hm1'.lt
  have q1 : w.heap.size + 1 < b := by omega
  have q2 : w.heap.size + 1 < wb := by omega
  have hbl := hM.str.lt
  have hwbl := hM.wds.lt
  have c1 := hs2.cell 0 rfl
  clear hs1 hm1' hU1 c0 hb hwb hsz
  go_wp2_with fail
  obtain ⟨inb, hinb⟩ : ∃ inb, inb = w2.heap.size := ⟨_, rfl⟩
  have hI0 : Blk (w2.alloc (.cells (madeCells #[.bool false] n) 4)) w2.heap.size (inCells (List.replicate ((n + 63) / 64) 0) n) 4 := by
    have e : madeCells #[Value.bool false] n = (inCells (List.replicate ((n + 63) / 64) 0) n).toArray := by
      rw [madeCells_one]
      congr 1
      apply List.ext_getElem
      · simp [inCells]
      · intro j h1 h2
        simp [inCells, has_zero]
    rw [e]
    exact Blk.made _ _ _
  have hIC := Blk.made' w2 (.cells (madeCells #[.bool false] n) 4) [.slice (some ⟨w2.heap.size, 0, none⟩) n n] 40
  have hI1 := hI0.alloc (.cells #[.slice (some ⟨w2.heap.size, 0, none⟩) n n] 40)
  have hu3 := ((Upd.refl (fun _ => False) w2).alloc (.cells (madeCells #[.bool false] n) 4)).alloc (.cells #[.slice (some ⟨w2.heap.size, 0, none⟩) n n] 40)
  have hM3 := hM.upd hu3 (fun h => h) (fun h => h)
  have hs3 := hs2.upd hu3 (fun h => h)
  have hm3 := hm2.upd hu3 (fun h => h)
  have hU3 := hU2.trans hu3
  rw [← hinb] at hI1 hIC hM3 hs3 hm3 hU3 hbl hwbl ⊢
  have hct0 : ct (List.replicate ((n + 63) / 64) 0) n = 0 := by
    have : ∀ m, ct (List.replicate ((n + 63) / 64) 0) m = 0 := by
      intro m
      induction m with
      | zero => rfl
      | succ m ih => simp only [ct, ih, has_zero]; rfl
    exact this n
  have HI3 := Lib.hid hI1
  have HIC := Lib.hid hIC
  have HM3 := Lib.hid hM3
  have Hs3 := Lib.hid hs3
  have Hm3 := Lib.hid hm3
  have HU3 := Lib.hid hU3
  have Hct0 := Lib.hid hct0
  clear hI0 hI1 hIC hu3 hM3 hs3 hm3 hU3 hM hs2 hm2 hU2 hu2 hct0 hinb hmk c1
  go_loopw [10, 49] (fun c i wr => Setting w b wb n most (inb + 1) inb zs.length c i wr) (fun _ i _ => zs.length - (intOf i).toNat)
  case atStart => exact ⟨0, _, Nat.zero_le _, rfl, by rw [Hct0.out]; rfl, HM3.out, fun j _ => has_zero _ _, HI3.out, HIC.out, Hs3.out, Hm3.out, HU3.out⟩
  case round =>
    obtain ⟨k, ws, hk, rfl, rfl, hM, hbd, hI, hIC, hS, hX, hU⟩ := hrel
    have c3 := hS.cell 0 rfl
    have c4 := hIC.cell 0 rfl
    by_cases hlk : k < zs.length
    · obtain ⟨v, hv⟩ : ∃ v, zs[k]? = some v := ⟨_, List.getElem?_eq_getElem hlk⟩
      have hzr := hz.below (hU.below (fun _ _ h => h)) rfl
      obtain ⟨bz, off, rfl, hc, _⟩ := hzr.cell k v hv
      have hvb := hz.byte k v hv
      obtain ⟨x, hx⟩ : ∃ x, x = v % n := ⟨_, rfl⟩
      have hxn : x < n := by rw [hx]; exact Nat.mod_lt _ (by omega)
      have ex : ((v : Int) % (n : Int)) = (x : Int) := by rw [hx]; exact (Int.natCast_emod v n).symm
      have hxw : x / 64 < ws.length := by have := hM.len; omega
      have hbd2 : ∀ j, n ≤ j → has (put ws x) j = false := fun j hj => by
        rw [has_put hxw, hbd j hj, decide_eq_false (by omega : ¬ j = x)]; rfl
      have hput := inCells_put (ws := ws) hxn hxw
      have hcp := ct_put hxw n
      have hcl := ct_le ws 0 n
      simp only [ct, Nat.zero_add] at hcl
      have ci := hI.cell x (inCells_get hxn)
      have fi := hI.frozen x
      obtain ⟨C, hC⟩ : ∃ C, C = ct ws n := ⟨_, rfl⟩
      rw [← hC] at hcp hcl ⊢
      obtain ⟨hs, hhs⟩ : ∃ hs, hs = has ws x := ⟨_, rfl⟩
      rw [← hhs] at ci hcp
      have Hput := Lib.hid hput
      have Hcp := Lib.hid hcp
      have Hbd := Lib.hid hbd2
      have Hz := Lib.hid hz
      have HS := Lib.hid hS
      have HX := Lib.hid hX
      have HI := Lib.hid hI
      have HIC := Lib.hid hIC
      clear hv hz hzr hx hbd hbd2 hput hcp hC hhs hS hX hI hIC
      have hMs : MapAt (wr.setCell ⟨inb, x, none⟩ (.bool true)) b wb n ws := hM.upd ((Upd.refl (fun k => k = inb) wr).setCell (p := ⟨inb, x, none⟩) _ (fun _ => rfl)) (by omega) (by omega)
      have HMs := Lib.hid hMs
      clear hM hMs
      have hfin : ∀ (w3 : World) (c' : Int), c' = ((ct (put ws x) n : Nat) : Int) → MapAt w3 b wb n (put ws x) → Upd (fun k => k = wb) (wr.setCell ⟨inb, x, none⟩ (.bool true)) w3 →
          Setting w b wb n most (inb + 1) inb zs.length (.int .i64 c') (.int .i64 ((k : Int) + 1)) w3 := fun w3 c' hc' hM3 hu3 => by
        have hs : ∀ k, k ≠ wb → ¬ (fun k => k = wb) k := fun k h h' => h h'
        refine ⟨k + 1, put ws x, by omega, by go_num, by rw [hc'], hM3, Hbd.out, ?_, ((HIC.out.setOther _ (by simp)).upd hu3 (by omega)), ((HS.out.setOther _ (by simp; omega)).upd hu3 (by omega)), ((HX.out.setOther _ (by simp; omega)).upd hu3 (by omega)), ?_⟩
        · rw [← Hput.out]; exact (HI.out.set x _).upd hu3 (by omega)
        · exact (hU.setCell _ (fun h => by have h' : inb < w.heap.size := h; omega)).next hu3 (by intro i hi h; omega)
      have Hfin := Lib.hid hfin
      clear hfin hU
      cases hs with
      | true =>
        go_wp2_with fail
        clear hc ci fi c3 c4
        refine (set_yes _ b wb n ws HMs.out x hxn).mono ?_
        rintro e w3 ⟨rfl, hM3, hu3⟩
        generalize (!has ws x) = fresh
        go_wp2
        go_roundw
        case rel => exact Hfin.out _ _ (by rw [Hcp.out]; simp) hM3 hu3
        case measure => simp [intOf]; omega
      | false =>
        go_wp2_with fail
        clear hc ci fi c3 c4
        refine (set_yes _ b wb n ws HMs.out x hxn).mono ?_
        rintro e w3 ⟨rfl, hM3, hu3⟩
        generalize (!has ws x) = fresh
        go_wp2
        go_roundw
        case rel => exact Hfin.out _ _ (by rw [Hcp.out]; simp [hxn]) hM3 hu3
        case measure => simp [intOf]; omega
    · have hke : k = zs.length := by omega
      subst hke
      obtain ⟨lb, hlb⟩ : ∃ lb, lb = wr.heap.size := ⟨_, rfl⟩
      have q3 : b < lb := by have := hM.str.lt; omega
      have q4 : wb < lb := by have := hM.wds.lt; omega
      have q5 : inb + 1 < lb := by have := hIC.lt; omega
      have q6 : w.heap.size + 1 < lb := by have := hX.lt; omega
      have hcl := ct_le ws 0 n
      simp only [ct, Nat.zero_add] at hcl
      have hu3 := (((Upd.refl (fun _ => False) wr).alloc (.cells #[.int .i64 (-1)] 3)).alloc (.cells #[.int .i64 0] 3)).alloc (.cells #[.bool true] 4)
      have hL3 : Blk (((wr.alloc (.cells #[.int .i64 (-1)] 3)).alloc (.cells #[.int .i64 0] 3)).alloc (.cells #[.bool true] 4)) lb [.int .i64 (-1)] 3 := by rw [hlb]; exact ((Blk.made wr _ _).alloc _).alloc _
      have hN3 : Blk (((wr.alloc (.cells #[.int .i64 (-1)] 3)).alloc (.cells #[.int .i64 0] 3)).alloc (.cells #[.bool true] 4)) (lb + 1) [.int .i64 0] 3 := by rw [hlb]; exact (Blk.made' wr _ _ _).alloc _
      have hO3 : Blk (((wr.alloc (.cells #[.int .i64 (-1)] 3)).alloc (.cells #[.int .i64 0] 3)).alloc (.cells #[.bool true] 4)) (lb + 1 + 1) [.bool true] 4 := by
        have h := Blk.made' (wr.alloc (.cells #[.int .i64 (-1)] 3)) (.cells #[.int .i64 0] 3) [.bool true] 4
        rw [World.size_alloc, ← hlb] at h
        exact h
      have HU3 := Lib.hid hu3
      have HL3 := Lib.hid hL3
      have HN3 := Lib.hid hN3
      have HO3 := Lib.hid hO3
      have HM := Lib.hid hM
      have HI := Lib.hid hI
      have HIC := Lib.hid hIC
      have HS := Lib.hid hS
      have HX := Lib.hid hX
      have HU := Lib.hid hU
      have Hbd := Lib.hid hbd
      have Hlb := Lib.hid hlb
      have HTr := Lib.hid (hT0.out.upd hU (fun h => h))
      obtain ⟨C, hC⟩ : ∃ C, C = ct ws n := ⟨_, rfl⟩
      rw [← hC] at hcl ⊢
      have HC := Lib.hid hC
      have hct0 : ct (List.replicate ws.length 0) n = 0 := by
        have : ∀ m, ct (List.replicate ws.length 0) m = 0 := by
          intro m
          induction m with
          | zero => rfl
          | succ m ih => simp only [ct, ih, has_zero]; rfl
        exact this n
      have Hct1 := Lib.hid hct0
      clear hu3 hL3 hN3 hO3 hM hI hIC hS hX hU hbd hlb hC hct0 hz c3 c4
      go_wp2_with fail
      refine (all_any _ b).mono ?_
      rintro e w4 ⟨rfl, hbox, hu4⟩
      rw [World.size_alloc, World.size_alloc, World.size_alloc, ← Hlb.out] at hbox
      have hJ : Js w b wb n most (lb + 1 + 1 + 1) (lb + 1) (lb + 1 + 1) lb w.heap.size (inb + 1) (w.heap.size + 1) inb ws 0 w4 := by
        have hu5 := HU3.out.trans hu4
        exact ⟨HM.out.upd hu5 (fun h => h) (fun h => h), HTr.out.upd hu5 (fun h => h), hbox, HN3.out.upd hu4 (fun h => h), HO3.out.upd hu4 (fun h => h), ⟨-1, HL3.out.upd hu4 (fun h => h), by decide⟩, HS.out.upd hu5 (fun h => h),
          HIC.out.upd hu5 (fun h => h), HX.out.upd hu5 (fun h => h), HI.out.upd hu5 (fun h => h), .inl rfl, HU.out.trans hu5⟩
      have hY := yielder w w4 b wb n most (lb + 1 + 1 + 1) (lb + 1) (lb + 1 + 1) lb w.heap.size (inb + 1) (w.heap.size + 1) inb ws Hbd.out hn1 hm1 (by omega) (by omega) (by omega) (by omega) (by omega) (by omega) (by omega) (by omega) (by omega) (by omega) (by omega)
      have HJ := Lib.hid hJ
      have HY := Lib.hid hY
      clear hJ hY hbox hu4
      rw [← Hlb.out]
      go_wp2_with fail
      rw [← Hlb.out]
      refine (all1_any w4 b wb n _ ws _ _ _ _ HY.out HJ.out).mono ?_
      rintro e w5 ⟨rfl, hov⟩
      have hF : Fin w b wb n most (lb + 1) (lb + 1 + 1) w.heap.size (w.heap.size + 1) ws w5 := by
        rcases hov with ⟨p5, hJ5, hno5⟩ | h
        · exact hJ5.fin hno5 Hbd.out
        · exact h
      obtain ⟨N, hN, hNe⟩ := hF.num
      rw [← HC.out] at hNe
      have g0 := hF.ok.cell 0 rfl
      have g1 := hN.cell 0 rfl
      have g2 := hF.siz.cell 0 rfl
      have g3 := hF.mst.cell 0 rfl
      have HF := Lib.hid hF
      have hmm : min (C : Int) (max (most : Int) 1) = (N : Int) := by omega
      have hlenw : ws.length = (n + 63) / 64 := hF.map.len
      clear hF hN hov
      by_cases hC0 : C = 0
      · have hN0 : N = 0 := by omega
        subst hN0
        have HC0 := Lib.hid hC0
        have t2 : ((C : Int) == 0) = true := by rw [beq_iff_eq]; omega
        have t2' : (C == 0) = true := by rw [beq_iff_eq]; exact hC0
        clear hC0 hNe
        go_wp2_with fail
        refine (clear_any w5 b wb n ws HF.out.map).mono ?_
        rintro e w6 ⟨rfl, hM6, hu6⟩
        have g4 := (HF.out.siz.upd hu6 (by omega)).cell 0 rfl
        have HM6 := Lib.hid hM6
        have HT6 := Lib.hid (HF.out.tab.upd hu6 (by omega))
        have HU6 := Lib.hid (HF.out.upd.next hu6 (by intro i hi h; omega))
        clear hM6 hu6 g0 g1 g2 g3
        go_wp2_with fail
        refine (count_yes w6 b wb n _ HM6.out 0 n (by omega) (by omega)).mono ?_
        rintro e w7 ⟨rfl, rfl⟩
        rw [Hct1.out]
        go_wp2_with fail
        refine (next_any w6 b wb n _ HM6.out HT6.out 0 (by omega)).mono ?_
        rintro e w7 ⟨r, err, rfl, hnx, rfl⟩
        rcases hnx with ⟨_, j, _, _, hj, _⟩ | ⟨rfl, rfl, _⟩
        · rw [has_zero] at hj; cases hj
        · go_wp2
          go_ret
          exact ⟨rfl, HU6.out.below (fun _ _ h => h)⟩
      · have t2 : ((C : Int) == 0) = false := by rw [beq_eq_false_iff_ne]; omega
        have t2' : (C == 0) = false := by rw [beq_eq_false_iff_ne]; exact hC0
        clear hC0 hNe
        go_wp2_with fail
        refine (clear_any w5 b wb n ws HF.out.map).mono ?_
        rintro e w6 ⟨rfl, hM6, hu6⟩
        have g4 := (HF.out.siz.upd hu6 (by omega)).cell 0 rfl
        have HM6 := Lib.hid hM6
        have HT6 := Lib.hid (HF.out.tab.upd hu6 (by omega))
        have HU6 := Lib.hid (HF.out.upd.next hu6 (by intro i hi h; omega))
        clear hM6 hu6 g0 g1 g2 g3
        go_wp2_with fail
        refine (count_yes w6 b wb n _ HM6.out 0 n (by omega) (by omega)).mono ?_
        rintro e w7 ⟨rfl, rfl⟩
        rw [Hct1.out]
        go_wp2_with fail
        refine (next_any w6 b wb n _ HM6.out HT6.out 0 (by omega)).mono ?_
        rintro e w7 ⟨r, err, rfl, hnx, rfl⟩
        rcases hnx with ⟨_, j, _, _, hj, _⟩ | ⟨rfl, rfl, _⟩
        · rw [has_zero] at hj; cases hj
        · go_wp2
          go_ret
          exact ⟨rfl, HU6.out.below (fun _ _ h => h)⟩

set_option maxRecDepth 20000 in
theorem law_no (w : World) (n most : Nat) (a : Option Addr) (cap : Nat) (zs : List Nat) (hz : zs.length ≤ 9223372036854775807) (h : 100 < zs.length ∨ n = 0) :
    Calls Tryd.prog 5 #[.int .u8 (n : Int), .slice a zs.length cap, .int .u8 (most : Int)] w fun e w' => e = .returned (.bool true) ∧ Below w.heap.size w w' := by
  have hs1 := ((Blk.made w [.int .u8 (n : Int)] 5).alloc (.cells #[.int .u8 (most : Int)] 5))
  have hU1 := (((Upd.refl (fun _ => False) w).alloc (.cells #[.int .u8 (n : Int)] 5)).alloc (.cells #[.int .u8 (most : Int)] 5))
  by_cases h1 : 100 < zs.length
  · have d1 : decide (100 < (zs.length : Int)) = true := decide_eq_true (by omega)
    have d1' : decide (100 < zs.length) = true := decide_eq_true h1
    have HS := Lib.hid hs1
    have HU := Lib.hid hU1
    clear h hs1 hU1
    go_enter Tryd.func5, Tryd.ntmps5
    go_wp2_with fail
    refine (awake _).mono ?_
    rintro e w1 ⟨rfl, hu1⟩
    go_wp2_with fail
    refine (awake _).mono ?_
    rintro e w2 ⟨rfl, hu2⟩
    go_wp2
    go_ret
    exact ⟨rfl, ((HU.out.trans hu1).trans hu2).below (by simp)⟩
  · have hn : n = 0 := by omega
    subst hn
    have d1 : decide (100 < (zs.length : Int)) = false := decide_eq_false (by omega)
    have d1' : decide (100 < zs.length) = false := decide_eq_false h1
    have HS := Lib.hid hs1
    have HU := Lib.hid hU1
    clear h h1 hs1 hU1
    go_enter Tryd.func5, Tryd.ntmps5
    go_wp2_with fail
    refine (awake _).mono ?_
    rintro e w1 ⟨rfl, hu1⟩
    have c0 : w1.cell? ⟨w.heap.size, 0, none⟩ = some (.int .u8 0) := (HS.out.upd hu1 (fun h => h)).cell 0 rfl
    go_wp2_with fail
    refine (awake _).mono ?_
    rintro e w2 ⟨rfl, hu2⟩
    go_wp2
    go_ret
    exact ⟨rfl, ((HU.out.trans hu1).trans hu2).below (by simp)⟩

theorem law (w : World) (hT : Table w) (n : Int) (hn : (Lit.int .u8 n).wf = true) (a : Option Addr) (cap : Nat) (zs : List Int) (hz : Row.Ints .u8 w a zs) (m : Int) (hm : (Lit.int .u8 m).wf = true) :
    Calls Tryd.prog 5 #[.int .u8 n, .slice a zs.length cap, .int .u8 m] w fun e w' => e = .returned (.bool true) ∧ Below w.heap.size w w' := by
  have hb := bounds_u8 hn
  have hb2 := bounds_u8 hm
  obtain ⟨n, rfl⟩ : ∃ k : Nat, n = (k : Int) := ⟨n.toNat, by omega⟩
  obtain ⟨m, rfl⟩ : ∃ k : Nat, m = (k : Int) := ⟨m.toNat, by omega⟩
  have hu := U8s.of hz
  have hlen : zs.length = (zs.map Int.toNat).length := by simp
  rw [hlen]
  by_cases h : 100 < (zs.map Int.toNat).length ∨ n = 0
  · exact law_no w n m a cap _ hu.short h
  · exact law_yes w hT n m a cap _ (by omega) (by omega) hu (by omega) (by omega)
end Go.Proofs.YtjbcjpdkflppaaaDoor.MarksAlls
