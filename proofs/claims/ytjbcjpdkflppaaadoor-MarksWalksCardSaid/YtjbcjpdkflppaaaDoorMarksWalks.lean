/- From each that is set on to the next one all are come to: the walk of besomlaw04.MarksWalks. -/
import Derived.Test.YtjbcjpdkflppaaaDoorAll
import Derived.Test.YtjbcjpdkflppaaaDoorRow
namespace Go.Proofs.YtjbcjpdkflppaaaDoor.MarksWalks
open Go.RowKit Go.Proofs.YtjbcjpdkflppaaaDoor.Mem Go.Proofs.YtjbcjpdkflppaaaDoor.Pop Go.Proofs.YtjbcjpdkflppaaaDoor.Marks

/-- The places below one that are set, rising. -/
def sl (ws : List Nat) (p : Nat) : List Nat := (List.range p).filter (has ws)
theorem sl_succ (ws : List Nat) (p : Nat) : sl ws (p + 1) = sl ws p ++ (if has ws p then [p] else []) := by
  unfold sl
  rw [List.range_succ, List.filter_append]
  congr 1
  simp only [List.filter_cons, List.filter_nil]
theorem sl_none {ws : List Nat} {p q : Nat} (hpq : p ≤ q) (h : ∀ i, p ≤ i → i < q → has ws i = false) : sl ws q = sl ws p := by
  induction q with
  | zero => rw [show p = 0 by omega]
  | succ q ih =>
    by_cases e : p = q + 1
    · rw [e]
    · rw [sl_succ, ih (by omega) (fun i h1 h2 => h i h1 (by omega)), h q (by omega) (by omega)]
      simp
theorem sl_next {ws : List Nat} {p q : Nat} (hpq : p ≤ q) (h : ∀ i, p ≤ i → i < q → has ws i = false) (hq : has ws q = true) : sl ws (q + 1) = sl ws p ++ [q] := by
  rw [sl_succ, sl_none hpq h, hq]
  rfl
theorem sl_len (ws : List Nat) : ∀ p, (sl ws p).length ≤ p
  | 0 => Nat.le_refl _
  | p + 1 => by
    have := sl_len ws p
    rw [sl_succ, List.length_append]
    split <;> simp <;> omega
theorem sl_all {ws : List Nat} {p n : Nat} (hp : ∀ i, p ≤ i → has ws i = false) (hn : ∀ i, n ≤ i → has ws i = false) : sl ws p = sl ws n := by
  rcases Nat.le_total p n with h | h
  · exact (sl_none h (fun i h1 _ => hp i h1)).symm
  · exact sl_none h (fun i h1 _ => hn i h1)
theorem sl_prefix (ws : List Nat) {p q : Nat} (h : p ≤ q) : ∃ r, sl ws q = sl ws p ++ r := by
  induction q with
  | zero => exact ⟨[], by rw [show p = 0 by omega]; simp⟩
  | succ q ih =>
    by_cases e : p = q + 1
    · exact ⟨[], by rw [e]; simp⟩
    · obtain ⟨r, hr⟩ := ih (by omega)
      exact ⟨r ++ (if has ws q then [q] else []), by rw [sl_succ, hr, List.append_assoc]⟩

set_option maxHeartbeats 1000000 in
theorem lam_yes (w : World) (at' okb ib lb g n cap i : Nat) (hok : Blk w okb [.bool true] 4) (hi : Blk w ib [.int .i64 (i : Int)] 3) (hl : Blk w lb [.slice (some ⟨g, 0, none⟩) n cap] 30) (hg : w.cell? ⟨g, i, none⟩ = some (.int .i64 (at' : Int)))
    (hin : i < n) (hn : n ≤ 1000) (hoi : okb ≠ ib) (hol : okb ≠ lb) (hog : okb ≠ g) (hil : ib ≠ lb) :
    Calls Tryd.prog 11 #[.int .i64 (at' : Int), .pointer (some ⟨okb, 0, none⟩), .pointer (some ⟨ib, 0, none⟩), .pointer (some ⟨lb, 0, none⟩)] w fun e w' => e = .returned (.bool true) ∧ Blk w' okb [.bool true] 4 ∧ Blk w' ib [.int .i64 ((i + 1 : Nat) : Int)] 3 ∧ Upd (fun k => k = okb ∨ k = ib) w w' := by
  have c0 := hok.cell 0 rfl
  have f0 := hok.frozen 0
  have c1 := hi.cell 0 rfl
  have f1 := hi.frozen 0
  have c2 := hl.cell 0 rfl
  have d1 : decide ((i : Int) < (n : Int)) = true := decide_eq_true (by omega)
  have d1' : decide (i < n) = true := decide_eq_true hin
  have i1 : (0 : Int) ≤ (i : Int) := by omega
  have i2 : (i : Int) < (n : Int) := by omega
  have Hok := Lib.hid hok
  have Hi := Lib.hid hi
  clear hok hi hl
  go_enter Tryd.func11, Tryd.ntmps11
  go_wp2
  go_ret
  refine ⟨rfl, ?_, ?_, ?_⟩
  · exact (Hok.out.set 0 (.bool true)).setOther _ hoi
  · exact (Hi.out.setOther _ (fun e => hoi e.symm)).set 0 _
  · exact ((Upd.refl _ w).setCell _ (fun _ => .inl rfl)).setCell _ (fun _ => .inr rfl)

def ints (l : List Nat) : List Value := l.map fun x : Nat => Value.int .i64 (x : Int)

/-- What is there when all below a place were told. -/
structure Js (w0 : World) (b wb n mb okb ib lb base : Nat) (v : Value) (ws : List Nat) (p : Nat) (w : World) : Prop where
  map : MapAt w b wb n ws
  tab : Table w
  box : Blk w mb [.pointer (some ⟨b, 0, none⟩)] 24
  ok : Blk w okb [.bool true] 4
  i : Blk w ib [.int .i64 ((sl ws p).length : Int)] 3
  l : Blk w lb [v] 30
  own : w.ownsRow base 3 1 v (sl ws n).length (ints (sl ws n))
  upd : Upd (fun _ => False) w0 w

theorem told (w0 w : World) (b wb n mb okb ib lb base : Nat) (v : Value) (ws : List Nat) (hbd : ∀ i, n ≤ i → has ws i = false) (hn : n ≤ 255)
    (d : okb ≠ ib ∧ okb ≠ lb ∧ ib ≠ lb ∧ okb ≠ b ∧ okb ≠ wb ∧ okb ≠ mb ∧ ib ≠ b ∧ ib ≠ wb ∧ ib ≠ mb) (hz : okb ≠ 0 ∧ ib ≠ 0) (hv : ∀ g, v.ownBlock = some g → okb ≠ g ∧ ib ≠ g) (ho : w0.heap.size ≤ okb) (hi : w0.heap.size ≤ ib) :
    Yielder ws w b wb n mb 11 #[.pointer (some ⟨okb, 0, none⟩), .pointer (some ⟨ib, 0, none⟩), .pointer (some ⟨lb, 0, none⟩)] (Js w0 b wb n mb okb ib lb base v ws) (fun _ => False) := by
  refine ⟨fun args w => ?_, fun p w h => ⟨h.map, h.tab, h.box.cell 0 rfl⟩, ?_⟩
  · exact (enters_of Tryd.func11 (by kernel_rfl) rfl) args w
  · intro p w at' h hp hno hat
    have hlt : at' < n := by
      rcases Nat.lt_or_ge at' n with h1 | h1
      · exact h1
      · rw [hbd at' h1] at hat; cases hat
    have hsl := sl_next hp hno hat
    obtain ⟨r, hr⟩ := sl_prefix ws (show at' + 1 ≤ n by omega)
    rw [hsl] at hr
    have hlen : (sl ws p).length < (sl ws n).length := by rw [hr]; simp
    have hget : (ints (sl ws n))[(sl ws p).length]? = some (.int .i64 (at' : Int)) := by
      rw [hr]; simp [ints]
    have hln := sl_len ws n
    obtain ⟨g, cap, rfl, _⟩ := own_some h.own (by omega)
    have hg := own_at h.own _ hget
    have hvg := hv g rfl
    refine (lam_yes w at' okb ib lb g (sl ws n).length cap (sl ws p).length h.ok h.i h.l hg hlen (by omega) d.1 d.2.1 hvg.1 d.2.2.1).mono ?_
    rintro e w' ⟨rfl, h1, h2, hu⟩
    have hs := d
    have hk : ∀ k, (k ≠ okb ∧ k ≠ ib) → ¬ (k = okb ∨ k = ib) := fun k h h' => by rcases h' with h' | h'; exact h.1 h'; exact h.2 h'
    refine .inl ⟨rfl, h.map.upd hu (hk _ ⟨by omega, by omega⟩) (hk _ ⟨by omega, by omega⟩), h.tab.upd hu (hk _ ⟨by omega, by omega⟩), h.box.upd hu (hk _ ⟨by omega, by omega⟩), h1, ?_, h.l.upd hu (hk _ ⟨by omega, by omega⟩), ?_, ?_⟩
    · rw [hsl, List.length_append]; exact h2
    · exact own_upd h.own hu (fun k hk' => hk _ (by have := hv k hk'; exact ⟨fun e => this.1 e.symm, fun e => this.2 e.symm⟩))
    · exact h.upd.next hu (by intro i hi h'; omega)

/-- Loop 1. -/
def Setting (w : World) (b wb n m : Nat) (i : Value) (wr : World) : Prop :=
  ∃ (k : Nat) (ws : List Nat), k ≤ m ∧ i = .int .i64 (k : Int) ∧ MapAt wr b wb n ws ∧ (∀ j, n ≤ j → has ws j = false) ∧ Upd (fun _ => False) w wr

/-- Loop 2. -/
def Walking (w : World) (b wb n lb : Nat) (ws : List Nat) (g : Nat) (a : Value) (wr : World) : Prop :=
  ∃ (p : Nat) (v : Value), p ≤ n ∧ g = n + 1 - p ∧ a = .int .i64 (p : Int) ∧ MapAt wr b wb n ws ∧ Blk wr lb [v] 30 ∧ wr.ownsRow (lb + 1) 3 1 v (sl ws p).length (ints (sl ws p)) ∧ Upd (fun _ => False) w wr

theorem own_form {w : World} {base : Nat} {e : TypeId} {size : Nat} {v : Value} {n : Nat} {xs : List Value} (h : w.ownsRow base e size v n xs) : ∃ a cap, v = .slice a n cap := by
  rcases h.2 with ⟨hv, h0⟩ | ⟨g, cap, cur, rfl, _⟩
  · exact ⟨none, 0, by rw [hv, h0]⟩
  · exact ⟨_, _, rfl⟩
theorem infoInt : (Tryd.prog.info? 3).map (fun i => (i.zero, i.size, i.bytes)) = some (some (.int .i64 0), 1, 8) := by kernel_rfl

set_option maxRecDepth 20000 in
set_option maxHeartbeats 4000000 in
theorem law_yes (w : World) (hT : Table w) (n : Nat) (a : Option Addr) (cap : Nat) (zs : List Nat) (hn0 : 1 ≤ n) (hn1 : n ≤ 255) (hz : U8s w a zs) (hl : zs.length ≤ 100) :
    Calls Tryd.prog 3 #[.int .u8 (n : Int), .slice a zs.length cap] w fun e w' => e = .returned (.bool true) ∧ Below w.heap.size w w' := by
  obtain ⟨i0, hi, hz0, hz1, hz2⟩ := info_parts infoInt
  have hT0 := Lib.hid hT
  clear hT
  have d1 : decide (100 < (zs.length : Int)) = false := decide_eq_false (by omega)
  have d1' : decide (100 < zs.length) = false := decide_eq_false (by omega)
  have d2 : ((n : Int) == 0) = false := beq_eq_false_iff_ne.2 (by omega)
  have d2' : (n == 0) = false := beq_eq_false_iff_ne.2 (by omega)
  have hmf : ∀ (fn : Fn) (first cap : Array Value) (w : World), (Instr.makeFunc fn first cap).run Tryd.prog w = .ok (.func fn first cap) w := fun _ _ _ _ => rfl
  go_enter Tryd.func3, Tryd.ntmps3
  go_wp2_with fail
  refine (awake _).mono ?_
  rintro e w1 ⟨rfl, hu1⟩
  go_wp2_with fail
  refine (new_yes n _ hn0 (by omega)).mono ?_
  rintro e w2 ⟨b, wb, rfl, hM, hb, hwb, hu2⟩
  have hU2 := hu1.trans hu2
  have hsz := hu1.size
  have q1 : w.heap.size ≤ b := by omega
  have q2 : w.heap.size ≤ wb := by omega
  go_wp2
  go_loopw [41] (fun i wr => Setting w b wb n zs.length i wr) (fun i _ => zs.length - (intOf i).toNat)
  case atStart => exact ⟨0, _, Nat.zero_le _, rfl, hM, fun j _ => has_zero _ _, hU2⟩
  case round =>
    clear hU2 hM hb hwb hu1 hu2 hsz
    obtain ⟨k, ws, hk, rfl, hM, hbd, hU⟩ := hrel
    by_cases hlk : k < zs.length
    · obtain ⟨v, hv⟩ : ∃ v, zs[k]? = some v := ⟨_, List.getElem?_eq_getElem hlk⟩
      have hzr := hz.below (hU.below (fun _ _ h => h)) rfl
      obtain ⟨bz, off, rfl, hc, _⟩ := hzr.cell k v hv
      have hvb := hz.byte k v hv
      obtain ⟨x, hx⟩ : ∃ x, x = v % n := ⟨_, rfl⟩
      have hxn : x < n := by rw [hx]; exact Nat.mod_lt _ (by omega)
      have ex : ((v : Int) % (n : Int)) = (x : Int) := by rw [hx]; exact (Int.natCast_emod v n).symm
      have hxw : x / 64 < ws.length := by have := hM.len; omega
      have hbd2 : ∀ j, n ≤ j → has (put ws x) j = false := fun j hj => by
        rw [has_put hxw, hbd j hj, decide_eq_false (by omega : ¬ j = x)]; rfl
      have Hbd := Lib.hid hbd2
      have Hz := Lib.hid hz
      clear hv hz hzr hx hbd hbd2
      go_wp2_with fail
      clear hc
      refine (set_yes wr b wb n ws hM x hxn).mono ?_
      rintro e w3 ⟨rfl, hM3, hu3⟩
      have hU3 := hU.next hu3 (by intro i hi e; omega)
      generalize (!has ws x) = fresh
      go_wp2
      go_roundw
      case rel => exact ⟨k + 1, put ws x, by omega, by go_num, hM3, Hbd.out, hU3⟩
      case measure => simp [intOf]; omega
    · have hke : k = zs.length := by omega
      subst hke
      have Hbd := Lib.hid hbd
      have HT := Lib.hid (hT0.out.upd hU (fun h => h))
      clear hbd hz
      have hbl := hM.str.lt
      have hwbl := hM.wds.lt
      obtain ⟨lb, hlb⟩ : ∃ lb, lb = wr.heap.size := ⟨_, rfl⟩
      have Hlb := Lib.hid hlb
      have q3 : b < lb := by omega
      have q4 : wb < lb := by omega
      have q5 : w.heap.size ≤ lb := by have := hU.size; omega
      have hM1 := hM.upd ((Upd.refl (fun _ => False) wr).alloc (.cells #[.slice none 0 0] 30)) (fun h => h) (fun h => h)
      have hU1 := hU.alloc (.cells #[.slice none 0 0] 30)
      have hB1 := Blk.made wr [.slice none 0 0] 30
      have HM1 := Lib.hid hM1
      have HU1 := Lib.hid hU1
      have HB1 := Lib.hid hB1
      clear hM hM1 hU hU1 hB1 hbl hwbl hlb
      go_wp2
      rw [← Hlb.out]
      go_loopg [10] (n + 1) (fun g a wr => Walking w b wb n lb ws g a wr)
      case atStart =>
        have hb1 := HB1.out
        rw [← Hlb.out] at hb1
        exact ⟨0, _, Nat.zero_le _, rfl, rfl, HM1.out, hb1, World.ownsRow_nil _ _ _ _, HU1.out⟩
      case round =>
        obtain ⟨p, v, hp, rfl, rfl, hM, hB, hO, hU⟩ := hrel
        obtain ⟨va, vc, rfl⟩ := own_form hO
        have hc := hB.cell 0 rfl
        have hcf := hB.frozen 0
        have hln := sl_len ws p
        have dl : decide (((sl ws p).length : Int) ≤ (n : Int)) = true := decide_eq_true (by omega)
        have dl' : decide ((sl ws p).length ≤ n) = true := decide_eq_true (by omega)
        have hs1 := fun q hq h => sl_next (ws := ws) (p := p) (q := q) hq h
        have hs2 := fun q hq h => sl_none (ws := ws) (p := p) (q := q) hq h
        have HO := Lib.hid hO
        have HM := Lib.hid hM
        have HB := Lib.hid hB
        have HU := Lib.hid hU
        have Hs1 := Lib.hid hs1
        have Hs2 := Lib.hid hs2
        have hT := HT.out
        have hlbl := hB.lt
        have HTr := Lib.hid (hT0.out.upd hU (fun h => h))
        obtain ⟨L, hL⟩ : ∃ L, L = sl ws p := ⟨_, rfl⟩
        rw [← hL] at hc hln dl dl'
        have HL := Lib.hid hL
        clear hs1 hs2 hO hM hB hU hT hL
        go_wp2_with fail
        refine (next_any _ b wb n ws HM.out HTr.out p hp).mono ?_
        rintro e w3 ⟨r, err, rfl, hnx, rfl⟩
        rcases hnx with ⟨rfl, j, rfl, hpj, hj, hno⟩ | ⟨rfl, rfl, hno⟩
        · have hjn : j < n := by
            rcases Nat.lt_or_ge j n with h1 | h1
            · exact h1
            · rw [Hbd.out j h1] at hj; cases hj
          have Hj := Lib.hid hj
          have Hno := Lib.hid hno
          clear hj hno
          have hO := HO.out
          rw [← HL.out] at hO
          go_wp2_with (first | (at_builtin; refine wpList_append_own _ rfl _ _ 30 rfl (lb + 1) 3 i0 _ 1 8 Tryd.underlying30 hi hz0 hz1 hz2 rfl (by decide) _ L.length (ints L) rfl (hO.alloc _) ⟨wr.heap.size, 0, none⟩ 1 1 [.int .i64 (j : Int)] rfl rfl ?c1 ?c2 ?c3 ?c4 ?c5 ?_))
          case c1 => exact cells_new _ _ _
          case c2 => simp [Value.oneCell']
          case c3 => simp only [maxLen]; omega
          case c4 => omega
          case c5 => simp only [World.size_alloc]; omega
          intro v' w2 hO2 hg2 _
          obtain ⟨va', vc', rfl⟩ := own_form hO2
          have hne : ∀ k, (Value.slice va L.length vc).ownBlock = some k → lb < k := fun k hk => by have := (hO.lt k hk).1; omega
          have hbb := HB.out
          rw [← HL.out] at hbb
          have hB2 : Blk w2 lb [.slice va L.length vc] 30 := (hbb.alloc _).of_eq (hg2.block _ (hbb.alloc _).lt (fun e => by have := hne _ e.symm; omega))
          have hu2 := ((Upd.refl (fun _ => False) wr).alloc (.cells #[.int .i64 (j : Int)] 3))
          have hU2 := (HU.out.trans hu2).grown hg2 (fun k hk hlt => by have := hne k hk; omega)
          have hM2 : MapAt w2 b wb n ws := HM.out.upd (S := fun k => lb < k) ((((Upd.refl _ wr).alloc (.cells #[.int .i64 (j : Int)] 3))).grown hg2 (fun k hk _ => hne k hk)) (by omega) (by omega)
          have hcf2 := hB2.frozen 0
          have hc2 := hB2.cell 0 rfl
          have HB2 := Lib.hid hB2
          have HU2 := Lib.hid hU2
          have HM2 := Lib.hid hM2
          have HO2 := Lib.hid hO2
          have hlb2 := hB2.lt
          clear hO hbb hB2 hu2 hU2 hM2 hO2 hg2 hne hc hcf
          go_wp2
          go_roundg (n + 1 - (j + 1))
          case rel =>
            refine ⟨j + 1, _, by omega, rfl, by go_num, ?_, HB2.out.set 0 _, ?_, ?_⟩
            · exact HM2.out.upd ((Upd.refl (fun k => k = lb) w2).setCell (p := ⟨lb, 0, none⟩) _ (fun _ => rfl)) (by omega) (by omega)
            · rw [Hs1.out j hpj Hno.out Hj.out, ← HL.out]
              have h3 : ints (L ++ [j]) = ints L ++ [.int .i64 (j : Int)] := by simp [ints]
              rw [h3, List.length_append]
              exact own_upd HO2.out ((Upd.refl (fun k => k = lb) w2).setCell (p := ⟨lb, 0, none⟩) _ (fun _ => rfl)) (fun k hk e => by have := (HO2.out.lt k hk).1; omega)
            · exact HU2.out.setCell _ (fun h => by have h' : lb < w.heap.size := h; omega)
          case measure => omega
        · have hsn : sl ws n = L := by rw [HL.out]; exact Hs2.out n hp (fun i h1 _ => hno i h1)
          have Hsn := Lib.hid hsn
          have Hno := Lib.hid hno
          clear hno hsn
          go_wp2_with fail
          have hu3 := (((Upd.refl (fun _ => False) wr).alloc (.cells #[.int .i64 0] 3)).alloc (.cells #[.bool true] 4))
          have hi3 : Blk ((wr.alloc (.cells #[.int .i64 0] 3)).alloc (.cells #[.bool true] 4)) wr.heap.size [.int .i64 0] 3 := (Blk.made wr _ _).alloc _
          have ho3 : Blk ((wr.alloc (.cells #[.int .i64 0] 3)).alloc (.cells #[.bool true] 4)) (wr.heap.size + 1) [.bool true] 4 := Blk.made' wr _ _ _
          have HI3 := Lib.hid hi3
          have HO3 := Lib.hid ho3
          have HU3 := Lib.hid hu3
          clear hi3 ho3 hu3
          refine (all_any _ b).mono ?_
          rintro e w4 ⟨rfl, hbox, hu4⟩
          rw [World.size_alloc, World.size_alloc] at hbox
          have hu5 := HU3.out.trans hu4
          have hJ : Js w b wb n (wr.heap.size + 1 + 1) (wr.heap.size + 1) wr.heap.size lb (lb + 1) (.slice va L.length vc) ws 0 w4 := by
            have hB := HB.out
            have hO := HO.out
            rw [← HL.out] at hB hO
            refine ⟨HM.out.upd hu5 (fun h => h) (fun h => h), HTr.out.upd hu5 (fun h => h), hbox, HO3.out.upd hu4 (fun h => h), HI3.out.upd hu4 (fun h => h), hB.upd hu5 (fun h => h), ?_, HU.out.trans hu5⟩
            rw [Hsn.out]
            exact own_upd hO hu5 (fun _ _ h => h)
          have hY : Yielder ws w4 b wb n (wr.heap.size + 1 + 1) 11 #[.pointer (some ⟨wr.heap.size + 1, 0, none⟩), .pointer (some ⟨wr.heap.size, 0, none⟩), .pointer (some ⟨lb, 0, none⟩)] (Js w b wb n (wr.heap.size + 1 + 1) (wr.heap.size + 1) wr.heap.size lb (lb + 1) (.slice va L.length vc) ws) (fun _ => False) := by
            have hO := HO.out
            rw [← HL.out] at hO
            have hsz := HU.out.size
            exact told w w4 b wb n _ _ _ lb (lb + 1) _ ws Hbd.out hn1 ⟨by omega, by omega, by omega, by omega, by omega, by omega, by omega, by omega, by omega⟩ ⟨by omega, by omega⟩ (fun g hg => by have := (hO.lt g hg).2; omega) (by omega) (by omega)
          have HJ := Lib.hid hJ
          have HY := Lib.hid hY
          clear hJ hY hbox hu4 hu5 hc hcf
          go_wp2_with fail
          refine (all1_any w4 b wb n _ ws _ _ _ _ HY.out HJ.out).mono ?_
          rintro e w5 ⟨rfl, ⟨p5, hJ5, hno5⟩ | h⟩
          · have e5 : sl ws p5 = L := by rw [sl_all hno5 Hbd.out]; exact Hsn.out
            have g0 := hJ5.ok.cell 0 rfl
            have g1 := hJ5.i.cell 0 rfl
            have g2 := hJ5.l.cell 0 rfl
            rw [e5] at g1
            have HE := Lib.hid (hJ5.upd.below (fun _ _ h => h))
            clear hJ5 hno5 e5
            go_wp2
            go_ret
            exact ⟨rfl, HE.out⟩
          · exact h.elim

set_option maxRecDepth 20000 in
theorem law_no (w : World) (n : Nat) (a : Option Addr) (cap : Nat) (zs : List Nat) (hz : zs.length ≤ 9223372036854775807) (h : 100 < zs.length ∨ n = 0) :
    Calls Tryd.prog 3 #[.int .u8 (n : Int), .slice a zs.length cap] w fun e w' => e = .returned (.bool true) ∧ Below w.heap.size w w' := by
  by_cases h1 : 100 < zs.length
  · have d1 : decide (100 < (zs.length : Int)) = true := decide_eq_true (by omega)
    have d1' : decide (100 < zs.length) = true := decide_eq_true h1
    clear h
    go_enter Tryd.func3, Tryd.ntmps3
    go_wp2_with fail
    refine (awake _).mono ?_
    rintro e w1 ⟨rfl, hu1⟩
    go_wp2_with fail
    refine (awake _).mono ?_
    rintro e w2 ⟨rfl, hu2⟩
    go_wp2
    go_ret
    exact ⟨rfl, (hu1.trans hu2).below (by simp)⟩
  · have hn : n = 0 := by omega
    subst hn
    have d1 : decide (100 < (zs.length : Int)) = false := decide_eq_false (by omega)
    have d1' : decide (100 < zs.length) = false := decide_eq_false h1
    clear h h1
    go_enter Tryd.func3, Tryd.ntmps3
    go_wp2_with fail
    refine (awake _).mono ?_
    rintro e w1 ⟨rfl, hu1⟩
    go_wp2_with fail
    refine (awake _).mono ?_
    rintro e w2 ⟨rfl, hu2⟩
    go_wp2
    go_ret
    exact ⟨rfl, (hu1.trans hu2).below (by simp)⟩

theorem law (w : World) (hT : Table w) (n : Int) (hn : (Lit.int .u8 n).wf = true) (a : Option Addr) (cap : Nat) (zs : List Int) (hz : Row.Ints .u8 w a zs) :
    Calls Tryd.prog 3 #[.int .u8 n, .slice a zs.length cap] w fun e w' => e = .returned (.bool true) ∧ Below w.heap.size w w' := by
  have hb := bounds_u8 hn
  obtain ⟨m, rfl⟩ : ∃ m : Nat, n = (m : Int) := ⟨n.toNat, by omega⟩
  have hu := U8s.of hz
  have hlen : zs.length = (zs.map Int.toNat).length := by simp
  rw [hlen]
  by_cases h : 100 < (zs.map Int.toNat).length ∨ m = 0
  · exact law_no w m a cap _ hu.short h
  · exact law_yes w hT m a cap _ (by omega) (by omega) hu (by omega)
end Go.Proofs.YtjbcjpdkflppaaaDoor.MarksWalks
