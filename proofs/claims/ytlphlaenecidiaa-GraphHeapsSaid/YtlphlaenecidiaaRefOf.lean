/- The document's Of: words read as objects. -/
import Derived.Test.YtlphlaenecidiaaRef3
import Derived.Test.YtlphlaenecidiaaRefUn
import Derived.Test.YtlphlaenecidiaaRow
import Derived.Test.YtlphlaenecidiaaLast
import Derived.Deep.RegionHeld3
import Derived.Deep.RegionLaw
import Derived.Deep.LoopGhost
import Derived.Deep.DeepCutAuto
set_option linter.unusedSimpArgs false
namespace Go.Proofs.Ytlphlaenecidiaa.Ref
open Go.RowKit Go.Proofs.Ytlphlaenecidiaa.Mem Go.Proofs.Ytlphlaenecidiaa.Obj Go.Proofs.Ytlphlaenecidiaa.Heap

/-- What Of answers. -/
def RofEnd (w : World) (n : Nat) (r : Option (List Ob)) (e : Ending) (w' : World) : Prop :=
  Upd (fun _ => False) w w' ∧ match r with
    | none => e = .returned (.tuple #[.agg #[.int .i64 0, .slice none 0 0], .int .i64 2])
    | some os => ∃ v, e = .returned (.tuple #[.agg #[.int .i64 (n : Int), v], .int .i64 0]) ∧ RefAt w' w.heap.size v os

/-- Objects with rows of their own. -/
def OwnObs (w : World) (base : Nat) (v : Value) (os : List Ob) : Prop := ∃ L : List (Ob × Value), L.map (·.1) = os ∧ w.ownsRow base 55 5 v os.length (ocells 0 L) ∧ ∀ p ∈ L, w.ownsRow base 3 1 p.2 p.1.ws.length (nums p.1.ws)
theorem OwnObs.nil (w : World) (base : Nat) : OwnObs w base (.slice none 0 0) [] := ⟨[], rfl, World.ownsRow_nil _ _ _ _, fun p hp => by cases hp⟩
theorem OwnObs.upd {S : Nat → Prop} {w w' : World} {base : Nat} {v : Value} {os : List Ob} (h : OwnObs w base v os) (u : Upd S w w') (hv : ∀ g, v.ownBlock = some g → ¬ S g) (hi : ∀ (x : Value) (n : Nat) (xs : List Value), w.ownsRow base 3 1 x n xs → ∀ g, x.ownBlock = some g → ¬ S g) : OwnObs w' base v os := by
  obtain ⟨L, h1, h2, h3⟩ := h
  exact ⟨L, h1, own_upd h2 u hv, fun p hp => own_upd (h3 p hp) u (hi _ _ _ (h3 p hp))⟩
theorem OwnObs.quiet {w w' : World} {base : Nat} {v : Value} {os : List Ob} (h : OwnObs w base v os) (u : Upd (fun _ => False) w w') : OwnObs w' base v os := h.upd u (fun _ _ h => h) (fun _ _ _ _ _ _ h => h)
theorem OwnObs.form {w : World} {base : Nat} {v : Value} {os : List Ob} (h : OwnObs w base v os) : ∃ a cap, v = .slice a os.length cap := by
  obtain ⟨L, h1, h2, h3⟩ := h
  exact own_form h2

theorem own_offR {w : World} {base : Nat} {e t : TypeId} {size : Nat} {v : Value} {n b : Nat} {xs cs : List Value} (h : w.ownsRow base e size v n xs) (hB : Blk w b cs t) (hne : e ≠ t) : v.ownBlock ≠ some b := by
  intro hb
  rcases h.2 with ⟨hv, _⟩ | ⟨g, cap, cur, hv, _, hg, _⟩
  · rw [hv] at hb; cases hb
  · rw [hv] at hb
    have : g = b := Option.some.inj hb
    subst this
    have e1 := Option.some.inj (hg.symm.trans hB)
    injection e1 with _ e2
    exact hne e2

/-- The loop. -/
def Reading (w : World) (W : List Int) (u : Nat) (g : Nat) (i : Value) (wr : World) : Prop :=
  ∃ (os : List Ob) (rest : List Int) (v : Value), W = flat os ++ rest ∧ i = .int .i64 (top os : Int) ∧ top os ≤ u ∧ u - top os ≤ g ∧ parse u [] (W.take u) = parse g os (rest.take (u - top os)) ∧ (∀ o ∈ os, o.good) ∧ OwnObs wr w.heap.size v os ∧
    Blk wr (w.heap.size + 1) [.int .i64 (W.length : Int), v] 30 ∧ Blk wr w.heap.size [.int .i64 0, .slice none 0 0] 30 ∧ Upd (fun _ => False) w wr

theorem keepC' {w w' : World} (h : Upd (fun _ => False) w w') {p : Addr} {x : Value} (hc : w.cell? p = some x) : w'.cell? p = some x := by
  have hb := World.block_lt_of_cell? w _ hc
  rw [World.cell?, h.block p.block hb (fun x => x)]
  exact hc
theorem keep4' {w w' : World} (h : Upd (fun _ => False) w w') {p q r t : Addr} {x y z u : Value} (hs : w.cell? p = some x ∧ w.cell? q = some y ∧ w.cell? r = some z ∧ w.cell? t = some u) : w'.cell? p = some x ∧ w'.cell? q = some y ∧ w'.cell? r = some z ∧ w'.cell? t = some u :=
  ⟨keepC' h hs.1, keepC' h hs.2.1, keepC' h hs.2.2.1, keepC' h hs.2.2.2⟩
theorem keep3' {w w' : World} (h : Upd (fun _ => False) w w') {p q r : Addr} {x y z : Value} (hs : w.cell? p = some x ∧ w.cell? q = some y ∧ w.cell? r = some z) : w'.cell? p = some x ∧ w'.cell? q = some y ∧ w'.cell? r = some z :=
  ⟨keepC' h hs.1, keepC' h hs.2.1, keepC' h hs.2.2⟩
theorem keep3set {w : World} {b c o o0 o1 o2 : Nat} {v x y z : Value} (hne : b ≠ c) (hs : w.cell? ⟨b, o0, none⟩ = some x ∧ w.cell? ⟨b, o1, none⟩ = some y ∧ w.cell? ⟨b, o2, none⟩ = some z) :
    (w.setCell ⟨c, o, none⟩ v).cell? ⟨b, o0, none⟩ = some x ∧ (w.setCell ⟨c, o, none⟩ v).cell? ⟨b, o1, none⟩ = some y ∧ (w.setCell ⟨c, o, none⟩ v).cell? ⟨b, o2, none⟩ = some z := by
  have e := ((Upd.refl (fun k => k = c) w).setCell (p := ⟨c, o, none⟩) v (fun _ => rfl))
  have one : ∀ {j : Nat} {x : Value}, w.cell? ⟨b, j, none⟩ = some x → (w.setCell ⟨c, o, none⟩ v).cell? ⟨b, j, none⟩ = some x := fun {j x} hc => by
    rw [World.cell?, e.block b (World.block_lt_of_cell? w _ hc) hne]
    exact hc
  exact ⟨one hs.1, one hs.2.1, one hs.2.2⟩
theorem infoObj : (Try.prog.info? 55).map (fun i => (i.zero, i.size, i.bytes)) = some (some (.agg #[.int .i64 0, .int .i64 0, .int .i64 0, .int .i64 0, .slice none 0 0]), 5, 56) := by kernel_rfl
theorem src_cut2 {w : World} {a : Option Addr} {cap p L : Nat} {xs : List Int} (h : IntsAt w (.slice a xs.length cap) xs) (hp : p + L ≤ xs.length) : SrcAt w (if cap = p then a else a.map (·.add p)) (nums ((xs.drop p).take L)) := by
  obtain ⟨a', cap', he, hc, hx⟩ := h
  cases he
  intro j u hu
  have hj : j < (nums ((xs.drop p).take L)).length := (List.getElem?_eq_some_iff.1 hu).1
  rw [nums_len, List.length_take, List.length_drop] at hj
  rw [if_neg (by omega)]
  rw [nums, List.getElem?_map, List.getElem?_take, if_pos (by omega), List.getElem?_drop] at hu
  cases hxj : xs[p + j]? with
  | none => rw [hxj] at hu; cases hu
  | some x =>
    rw [hxj] at hu
    cases hu
    obtain ⟨b, off, rfl, hc', _⟩ := hx (p + j) x hxj
    refine ⟨_, rfl, ?_⟩
    show w.cell? (((⟨b, off, none⟩ : Addr).add p).add j) = _
    rw [add_at, add_at, Nat.add_assoc]
    exact hc'
theorem ocells_snoc (o : Ob) (v : Value) : ∀ (l : List (Ob × Value)) (s : Nat), ocells s (l ++ [(o, v)]) = ocells s l ++ [.int .i64 ((s + top (l.map (·.1)) : Nat) : Int), .int .i64 (o.kind : Int), .int .i64 (o.len : Int), .int .i64 (o.ptrs : Int), v]
  | [], s => by simp [ocells, top_nil]
  | (p, u) :: l, s => by
    rw [List.cons_append]
    simp only [ocells, ocells_snoc o v l, List.map_cons, top_cons, List.append_assoc]
    rw [show s + (1 + p.len) + top (l.map (·.1)) = s + (1 + p.len + top (l.map (·.1))) by omega]
theorem own_apartR {w : World} {base base' : Nat} {e e' : TypeId} {size size' : Nat} {v v' : Value} {n n' : Nat} {xs xs' : List Value} (h : w.ownsRow base e size v n xs) (h' : w.ownsRow base' e' size' v' n' xs') (hne : e ≠ e') : ∀ g, v.ownBlock = some g → v'.ownBlock ≠ some g := by
  intro g hg hg'
  rcases h'.2 with ⟨hv', _⟩ | ⟨g2, cap', cur', hv', _, hb', _⟩
  · rw [hv'] at hg'; cases hg'
  · rw [hv'] at hg'
    have e2 : g2 = g := Option.some.inj hg'
    subst e2
    exact own_offR h (cs := cur'.toList) (t := e') (by unfold Blk; simpa using hb') hne hg
/-- One object more. -/
def OneRead (w0 w : World) (n : Nat) (hb : Nat) (L : Nat) (os : List Ob) (o : Ob) (wd : World) : Prop :=
  ∃ v, OwnObs wd w0.heap.size v (os ++ [o]) ∧ Blk wd (w0.heap.size + 1) [.int .i64 (n : Int), v] 30 ∧ wd.cell? ⟨hb, 1, none⟩ = some (.int .i64 (L : Int)) ∧ Upd (fun k => w0.heap.size < k) w wd

set_option maxRecDepth 20000 in
set_option maxHeartbeats 4000000 in
theorem rof_any (w : World) (a : Option Addr) (cap : Nat) (W : List Int) (hz : Row.Ints .i64 w a W) (hW : ∀ x ∈ W, x ≤ 9223372036854775807) (u : Nat) (hu : u ≤ W.length) (h0 : 1 ≤ W.length) (h1 : W.length ≤ 65536) (hcap : W.length ≤ cap) :
    Calls Try.prog 11 #[.slice a W.length cap, .int .i64 (u : Int)] w (RofEnd w W.length (parse u [] (W.take u))) := by
  obtain ⟨i0, hi0, hz0, hz1, hz2⟩ := info_parts infoInt
  obtain ⟨j0, hj0, hy0, hy1, hy2⟩ := info_parts infoObj
  obtain ⟨x0, hx0⟩ : ∃ x, W[0]? = some x := ⟨_, List.getElem?_eq_getElem (by omega)⟩
  obtain ⟨bz, off, rfl, _, hbz⟩ := hz.cell 0 x0 hx0
  have HZ := Lib.hid hz
  have HX := Lib.hid hW
  have e1 : decide ((W.length : Int) < 1) = false := decide_eq_false (by omega)
  have e1' : decide (W.length < 1) = false := decide_eq_false (by omega)
  have e2 : decide (65536 < (W.length : Int)) = false := decide_eq_false (by omega)
  have e2' : decide (65536 < W.length) = false := decide_eq_false (by omega)
  have d1 : decide ((u : Int) < 0) = false := decide_eq_false (by omega)
  have d2 : decide ((W.length : Int) < (u : Int)) = false := decide_eq_false (by omega)
  have d2' : decide (W.length < u) = false := decide_eq_false (by omega)
  have HB0 := Lib.hid ((Blk.made w [.int .i64 0, .slice none 0 0] 30).alloc (.cells #[.int .i64 (W.length : Int), .slice none 0 0] 30))
  have HB1 := Lib.hid (Blk.made' w (.cells #[.int .i64 0, .slice none 0 0] 30) [.int .i64 (W.length : Int), .slice none 0 0] 30)
  have HU1 := Lib.hid (((Upd.refl (fun _ => False) w).alloc (.cells #[.int .i64 0, .slice none 0 0] 30)).alloc (.cells #[.int .i64 (W.length : Int), .slice none 0 0] 30))
  clear hz hW hx0
  go_enter Try.func11, Try.ntmps11
  go_wp2
  go_loopg [7] u (fun g i wr => Reading w W u g i wr)
  case atStart => exact ⟨[], W, _, rfl, rfl, Nat.zero_le _, Nat.le_refl _, rfl, (fun o ho => by cases ho), OwnObs.nil _ _, HB1.out, HB0.out, HU1.out⟩
  case round =>
    obtain ⟨os, rest, v, hWr, rfl, htu, hg, hp, hgd, hO, hB, hR, hU⟩ := hrel
    obtain ⟨va, vc, rfl⟩ := hO.form
    have HWr := Lib.hid hWr
    have HP := Lib.hid hp
    have HGd := Lib.hid hgd
    have HO := Lib.hid hO
    have HB := Lib.hid hB
    have HR := Lib.hid hR
    have HU := Lib.hid hU
    have hlen : W.length = top os + rest.length := by rw [hWr]; simp [top]
    have c0 := hB.cell 0 rfl
    have c1 := hB.cell 1 rfl
    have r0 := hR.cell 0 rfl
    have r1 := hR.cell 1 rfl
    have f0 := hR.frozen 0
    have f1 := hR.frozen 1
    have hl := hB.lt
    obtain ⟨T, hT⟩ : ∃ T, T = top os := ⟨_, rfl⟩
    rw [← hT] at htu hg hlen ⊢
    have HT := Lib.hid hT
    have HLen := Lib.hid hlen
    clear hWr hp hgd hO hB hR hU hT hlen
    by_cases hlt : T < u
    · have d3 : decide ((T : Int) < (u : Int)) = true := decide_eq_true (by omega)
      have d3' : decide (T < u) = true := decide_eq_true hlt
      have hlen := HLen.out
      obtain ⟨x, ws, hrx⟩ : ∃ x ws, rest = x :: ws := by
        cases rest with
        | nil => simp at hlen; omega
        | cons x ws => exact ⟨x, ws, rfl⟩
      subst hrx
      obtain ⟨g', rfl⟩ : ∃ g', gk = g' + 1 := ⟨gk - 1, by omega⟩
      have hWT : W[T]? = some x := by
        have h2 := HWr.out
        rw [h2, HT.out, List.getElem?_append_right (by simp [top])]
        simp [top]
      have hx64 := HX.out x (List.mem_of_getElem? hWT)
      obtain ⟨b', o', he, hc, _⟩ := HZ.out.cell T x hWT
      cases he
      have hc2 : wr.cell? ⟨bz, off + T, none⟩ = some (.int .i64 x) := by
        rw [World.cell?, HU.out.block bz hbz (fun h => h)]
        exact hc
      have i1 : (0 : Int) ≤ (T : Int) := by omega
      have i2 : (T : Int) < (W.length : Int) := by omega
      have hsp : (x :: ws).take (u - T) = x :: ws.take (u - T - 1) := by
        obtain ⟨m, hm⟩ : ∃ m, u - T = m + 1 := ⟨u - T - 1, by omega⟩
        rw [hm]
        rfl
      have hp2 : parse u [] (W.take u) = if okW x = true ∧ lenOf x ≤ (ws.take (u - T - 1)).length then parse g' (os ++ [obOf x ((ws.take (u - T - 1)).take (lenOf x))]) ((ws.take (u - T - 1)).drop (lenOf x)) else none := by
        have h2 := HP.out
        rw [← HT.out, hsp, parse_cons] at h2
        exact h2
      have HP2 := Lib.hid hp2
      have hwl : T + ws.length + 1 = W.length := by simp at hlen; omega
      have hrun := run_any x hx64 wr
      have hll : w.heap.size + 1 < wr.heap.size := hl
      clear hWT hc hsp hp2 hlen hx64
      cases hok : okW x with
      | false =>
        have hnone : parse u [] (W.take u) = none := by
          rw [HP2.out, if_neg (fun h => by rw [hok] at h; cases h.1)]
        have HNone := Lib.hid hnone
        have hrun2 : Calls Try.prog 27 #[.int .i64 x] wr (fun e w' => e = .returned (.tuple #[.agg #[.int .i64 0, .int .i64 0, .int .i64 0], .bool false]) ∧ Upd (fun _ => False) wr w') := hrun.mono fun e w' h => by
          have h2 := h.2
          rw [if_neg (by rw [hok]; decide)] at h2
          exact ⟨h2, h.1⟩
        have HUn := Lib.hid hrun2
        clear hnone hok hrun hrun2
        go_wp2_with fail
        refine (HUn.out).mono ?_
        rintro e w3 ⟨rfl, hu3⟩
        have HR3 := Lib.hid (HR.out.upd hu3 (fun h => h))
        have k0 := (HR.out.upd hu3 (fun h => h)).cell 0 rfl
        have k1 := (HR.out.upd hu3 (fun h => h)).cell 1 rfl
        have kf0 := (HR.out.upd hu3 (fun h => h)).frozen 0
        have kf1 := (HR.out.upd hu3 (fun h => h)).frozen 1
        have kl := (HR.out.upd hu3 (fun h => h)).lt
        have HU3 := Lib.hid (HU.out.trans hu3)
        clear hu3 c0 c1 r0 r1 f0 f1 hc2
        go_wp2
        refine bodyPost_ret (res_cell_tmp rfl _ _ w.heap.size _ 30 _ _ rfl rfl (((HR3.out.set 0 _).set 1 _).alloc _) Try.underlying30 rfl (by kernel_rfl)) rfl ⟨((HU3.out.setCell _ (fun h => by have h' : w.heap.size < w.heap.size := h; omega)).setCell _ (fun h => by have h' : w.heap.size < w.heap.size := h; omega)).alloc _, ?_⟩
        rw [HNone.out]
        rfl
      | true =>
        obtain ⟨e0, e1, e2, e3, e4, e5, e6, e7⟩ := okW_parts hok
        obtain ⟨L, hL⟩ : ∃ L, L = lenOf x := ⟨_, rfl⟩
        rw [← hL] at e4 e5 e6
        have hrun2 : Calls Try.prog 27 #[.int .i64 x] wr (fun e w' => e = .returned (.tuple #[.agg #[.int .i64 (x % 16), .int .i64 (L : Int), .int .i64 (x / 16 % 4096)], .bool true]) ∧ Upd (fun _ => False) wr w') := hrun.mono fun e w' h => by
          have h2 := h.2
          rw [if_pos hok, show x / 65536 = (L : Int) by omega] at h2
          exact ⟨h2, h.1⟩
        have HUn := Lib.hid hrun2
        have HLe := Lib.hid hL
        have HOk := Lib.hid hok
        obtain ⟨K, hK⟩ : ∃ K : Nat, (K : Int) = x % 16 := ⟨_, e2.symm⟩
        obtain ⟨Pn, hPn⟩ : ∃ Pn : Nat, (Pn : Int) = x / 16 % 4096 := ⟨_, e3.symm⟩
        rw [← hK, ← hPn] at HUn
        have HK := Lib.hid hK
        have HPn := Lib.hid hPn
        have m1 : IntKind.i64.wrap ((T : Int) + 1) = (T : Int) + 1 := IntWalk.i64_in _ (by omega)
        have m2 : IntKind.i64.wrap ((T : Int) + 1 + (L : Int)) = (T : Int) + 1 + (L : Int) := IntWalk.i64_in _ (by omega)
        clear hrun hrun2 hL hok e0 e1 e2 e3 e4 e6 e7 hK hPn
        by_cases hLu : u - T ≤ L
        · have hnone : parse u [] (W.take u) = none := by
            rw [HP2.out, if_neg (fun h => by have := h.2; rw [List.length_take, ← HLe.out] at this; omega)]
          have HNone := Lib.hid hnone
          have d4 : decide ((u : Int) < (T : Int) + 1 + (L : Int)) = true := decide_eq_true (by omega)
          clear hnone
          go_wp2_with fail
          refine (HUn.out).mono ?_
          rintro e w3 ⟨rfl, hu3⟩
          have HR3 := Lib.hid (HR.out.upd hu3 (fun h => h))
          have k0 := (HR.out.upd hu3 (fun h => h)).cell 0 rfl
          have k1 := (HR.out.upd hu3 (fun h => h)).cell 1 rfl
          have kf0 := (HR.out.upd hu3 (fun h => h)).frozen 0
          have kf1 := (HR.out.upd hu3 (fun h => h)).frozen 1
          have kl := (HR.out.upd hu3 (fun h => h)).lt
          have HU3 := Lib.hid (HU.out.trans hu3)
          clear hu3 c0 c1 r0 r1 f0 f1 hc2
          go_wp2
          refine bodyPost_ret (res_cell_tmp rfl _ _ w.heap.size _ 30 _ _ rfl rfl (((HR3.out.set 0 _).set 1 _).alloc _) Try.underlying30 rfl (by kernel_rfl)) rfl ⟨((HU3.out.setCell _ (fun h => by have h' : w.heap.size < w.heap.size := h; omega)).setCell _ (fun h => by have h' : w.heap.size < w.heap.size := h; omega)).alloc _, ?_⟩
          rw [HNone.out]
          rfl
        · have d4 : decide ((u : Int) < (T : Int) + 1 + (L : Int)) = false := decide_eq_false (by omega)
          go_wp2_with fail
          refine (HUn.out).mono ?_
          rintro e w3 ⟨rfl, hu3⟩
          have u3 := hu3.alloc (.cells #[.int .i64 (K : Int), .int .i64 (L : Int), .int .i64 (Pn : Int)] 53)
          have HH3 := Lib.hid (Blk.made w3 [.int .i64 (K : Int), .int .i64 (L : Int), .int .i64 (Pn : Int)] 53)
          have k1 := (HB.out.upd hu3 (fun h => h)).cell 1 rfl
          have kl := (HB.out.upd hu3 (fun h => h)).lt
          have HU3 := Lib.hid u3
          clear hu3 u3 c0 c1 r0 r1 f0 f1 hc2
          have hsrc : IntsAt w (.slice (some ⟨bz, off, none⟩) W.length cap) W := ⟨_, cap, rfl, hcap, fun j x hj => HZ.out.cell j x hj⟩
          have HSrc := Lib.hid hsrc
          have t1 : (0 : Int) ≤ (T : Int) + 1 := by omega
          have t2 : (T : Int) + 1 ≤ (T : Int) + 1 + (L : Int) := by omega
          have t3 : (T : Int) + 1 + (L : Int) ≤ (cap : Int) := by omega
          have q0 := HH3.out.cell 0 rfl
          have q1 := HH3.out.cell 1 rfl
          have q2 := HH3.out.cell 2 rfl
          clear hsrc
          go_wp2
          go_cut [] (fun wd => OneRead w (w3.alloc (.cells #[.int .i64 (K : Int), .int .i64 (L : Int), .int .i64 (Pn : Int)] 53)) W.length w3.heap.size L os (obOf x (ws.take L)) wd)
          case first =>
            have hwd : (W.drop (T + 1)).take L = ws.take L := by
              have h2 := HWr.out
              rw [h2, List.drop_append, List.drop_eq_nil_of_le (by have := HT.out; simp [top] at this; omega), List.nil_append, show T + 1 - (flat os).length = 1 by have := HT.out; simp only [top] at this; omega]
              rfl
            have huS : Upd (fun _ => False) w (w3.alloc (.cells #[.int .i64 (K : Int), .int .i64 (L : Int), .int .i64 (Pn : Int)] 53)) := HU.out.trans HU3.out
            have hsS := huS.size
            have oe := own_empty (w3.alloc (.cells #[.int .i64 (K : Int), .int .i64 (L : Int), .int .i64 (Pn : Int)] 53)) 3 1 w.heap.size hsS
            rw [World.size_alloc] at oe
            have s1 := src_cut2 (p := T + 1) (L := L) (HSrc.out.quiet (huS.alloc (.cells #[] 3))) (by omega)
            rw [hwd, Option.map_some, add_at] at s1
            have hmm : ((T : Int) + 1 + (L : Int)).toNat - (T + 1) = L := by omega
            obtain ⟨L0, hL0, hL1, hL2⟩ := HO.out
            have hol := own_upd hL1 HU3.out (fun _ _ h => h)
            have HOl := Lib.hid hol
            have HMm := Lib.hid hmm
            have hnl : (nums (ws.take L)).length = (((T : Int) + 1 + (L : Int)).toNat - (T + 1)) * 1 := by rw [nums_len, List.length_take]; omega
            have k1S := keepC' (HU3.out) (HB.out.cell 1 rfl)
            have Oe := Lib.hid oe
            have S1 := Lib.hid s1
            have HNl := Lib.hid hnl
            have hos : os.length ≤ 65536 := by
              have : ∀ l : List Ob, l.length ≤ top l := by
                intro l
                induction l with
                | nil => exact Nat.le_refl _
                | cons o l ih => rw [top_cons, List.length_cons]; omega
              have := this os
              have := HT.out
              omega
            clear hwd huS oe s1 hnl hmm hol hL1
            refine wp_region_last (S := fun V => V.cell? ⟨w.heap.size + 1, 1, none⟩ = some (.slice va os.length vc) ∧ V.cell? ⟨w3.heap.size, 0, none⟩ = some (.int .i64 (K : Int)) ∧ V.cell? ⟨w3.heap.size, 1, none⟩ = some (.int .i64 (L : Int)) ∧ V.cell? ⟨w3.heap.size, 2, none⟩ = some (.int .i64 (Pn : Int))) (by kernel_rfl) (by kernel_rfl) ⟨k1S, q0, q1, q2⟩ (fun hHeld => ?_)
            simp only [List.pop_toArray, List.dropLast_cons_cons, List.dropLast_singleton, List.size_toArray, List.length_cons, List.length_nil, Nat.reduceAdd, Nat.reduceSub]
            refine take_last (i := 0) (v := ?_) (by rfl) (by kernel_rfl) (by exact (fun _ _ _ h => h)) (by rfl) hHeld ?_ ?_
            rotate_left
            · ((intro V hV; obtain ⟨hV0, hV1, hV2, hV3⟩ := hV; go_simp) <;> (with_reducible rfl))
            try simp only [Act.put, List.setIfInBounds_toArray, List.set_cons_zero, List.set_cons_succ]
            refine take_last (i := 1) (v := ?_) (by rfl) (by kernel_rfl) (by exact (fun _ _ _ h => h)) (by rfl) hHeld ?_ ?_
            rotate_left
            · ((intro V hV; obtain ⟨hV0, hV1, hV2, hV3⟩ := hV; go_simp) <;> (with_reducible rfl))
            try simp only [Act.put, List.setIfInBounds_toArray, List.set_cons_zero, List.set_cons_succ]
            refine take_last (i := 2) (v := ?_) (by rfl) (by kernel_rfl) (by exact (fun _ _ _ h => h)) (by rfl) hHeld ?_ ?_
            rotate_left
            · ((intro V hV; obtain ⟨hV0, hV1, hV2, hV3⟩ := hV; go_simp) <;> (with_reducible rfl))
            try simp only [Act.put, List.setIfInBounds_toArray, List.set_cons_zero, List.set_cons_succ]
            refine take_last (i := 3) (v := ?_) (by rfl) (by kernel_rfl) (by exact (fun _ _ _ h => h)) (by rfl) hHeld ?_ ?_
            rotate_left
            · ((intro V hV; obtain ⟨hV0, hV1, hV2, hV3⟩ := hV; go_simp) <;> (with_reducible rfl))
            try simp only [Act.put, List.setIfInBounds_toArray, List.set_cons_zero, List.set_cons_succ]
            refine take_last (i := 5) (v := ?_) (by rfl) (by kernel_rfl) (by exact (fun _ _ _ h => h)) (by rfl) hHeld ?_ ?_
            rotate_left
            · ((intro V hV; obtain ⟨hV0, hV1, hV2, hV3⟩ := hV; go_simp) <;> (with_reducible rfl))
            try simp only [Act.put, List.setIfInBounds_toArray, List.set_cons_zero, List.set_cons_succ]
            refine take_last (i := 6) (v := ?_) (by rfl) (by kernel_rfl) (by exact (fun _ _ _ h => h)) (by rfl) hHeld ?_ ?_
            rotate_left
            · ((intro V hV; obtain ⟨hV0, hV1, hV2, hV3⟩ := hV; go_simp) <;> (with_reducible rfl))
            try simp only [Act.put, List.setIfInBounds_toArray, List.set_cons_zero, List.set_cons_succ]
            refine take_last (i := 7) (v := ?_) (by rfl) (by kernel_rfl) (by exact (fun _ _ _ h => h)) (by rfl) hHeld ?_ ?_
            rotate_left
            · ((intro V hV; obtain ⟨hV0, hV1, hV2, hV3⟩ := hV; go_simp) <;> (with_reducible rfl))
            try simp only [Act.put, List.setIfInBounds_toArray, List.set_cons_zero, List.set_cons_succ]
            refine take_last (i := 8) (v := ?_) (by rfl) (by kernel_rfl) (by exact (fun _ _ _ h => h)) (by rfl) hHeld ?_ ?_
            rotate_left
            · ((intro V hV; obtain ⟨hV0, hV1, hV2, hV3⟩ := hV; go_simp) <;> (with_reducible rfl))
            try simp only [Act.put, List.setIfInBounds_toArray, List.set_cons_zero, List.set_cons_succ]
            refine take_last (i := 9) (v := ?_) (by rfl) (by kernel_rfl) (by exact (fun _ _ _ h => h)) (by rfl) hHeld ?_ ?_
            rotate_left
            · ((intro V hV; obtain ⟨hV0, hV1, hV2, hV3⟩ := hV; go_simp) <;> (with_reducible rfl))
            try simp only [Act.put, List.setIfInBounds_toArray, List.set_cons_zero, List.set_cons_succ]
            refine take_last (i := 10) (v := ?_) (by rfl) (by kernel_rfl) (by exact (fun _ _ _ h => h)) (by rfl) hHeld ?_ ?_
            rotate_left
            · ((intro V hV; obtain ⟨hV0, hV1, hV2, hV3⟩ := hV; go_simp) <;> (with_reducible rfl))
            try simp only [Act.put, List.setIfInBounds_toArray, List.set_cons_zero, List.set_cons_succ]
            refine take_last (i := 11) (v := ?_) (by rfl) (by kernel_rfl) (by exact (fun _ _ _ h => h)) (by rfl) hHeld ?_ ?_
            rotate_left
            · ((intro V hV; obtain ⟨hV0, hV1, hV2, hV3⟩ := hV; go_simp) <;> (with_reducible rfl))
            try simp only [Act.put, List.setIfInBounds_toArray, List.set_cons_zero, List.set_cons_succ]
            refine take_last (i := 12) (v := ?_) (by rfl) (by kernel_rfl) (by exact (fun _ _ _ h => h)) (by rfl) hHeld ?_ ?_
            rotate_left
            · ((intro V hV; obtain ⟨hV0, hV1, hV2, hV3⟩ := hV; go_simp) <;> (with_reducible rfl))
            try simp only [Act.put, List.setIfInBounds_toArray, List.set_cons_zero, List.set_cons_succ]
            refine take_last (i := 13) (v := ?_) (by rfl) (by kernel_rfl) (by exact (fun _ _ _ h => h)) (by rfl) hHeld ?_ ?_
            rotate_left
            · ((intro V hV; obtain ⟨hV0, hV1, hV2, hV3⟩ := hV; go_simp) <;> (with_reducible rfl))
            try simp only [Act.put, List.setIfInBounds_toArray, List.set_cons_zero, List.set_cons_succ]
            refine next_last (i := 4) (by rfl) (by kernel_rfl) (fun KK hK => ?_)
            go_simp
            refine hK.out _ _ (keep4' ((Upd.refl _ _).alloc _).drew ⟨k1S, q0, q1, q2⟩) (fun hHeld => ?_)
            clear hK KK
            try simp only [Act.put, List.setIfInBounds_toArray, List.set_cons_zero, List.set_cons_succ]
            refine next_last (i := 14) (by rfl) (by kernel_rfl) (fun KK hK => ?_)
            refine step_app _ (by rfl) _ _ 22 (by rfl) w.heap.size 3 i0 _ 1 8 Try.underlying22 hi0 hz0 hz1 hz2 rfl (by decide) _ 0 [] (by rfl) Oe.out _ _ _ (nums (ws.take L)) (by rfl) HNl.out S1.out (nums_one _) (by simp only [maxLen]; omega) (by omega) (by simp only [World.size_alloc, World.size_drew]; omega) ?_
            intro v1 w2 ho1 hg1 hat1
            rw [Nat.zero_add, List.nil_append, HMm.out] at ho1
            obtain ⟨b1, c1, rfl⟩ := own_form ho1
            have hcum : Upd (fun _ => False) (w3.alloc (.cells #[.int .i64 (K : Int), .int .i64 (L : Int), .int .i64 (Pn : Int)] 53)) w2 := (((Upd.refl (fun _ => False) _).alloc (.cells #[] 3)).drew).grown hg1 (fun k hk hlt => by have h : w3.heap.size + 1 = k := Option.some.inj hk; rw [World.size_alloc] at hlt; omega)
            have p1 := keepC' hcum k1S
            have p2 := keepC' hcum q0
            have p3 := keepC' hcum q1
            have p4 := keepC' hcum q2
            have HO1 := Lib.hid ho1
            have HCum := Lib.hid hcum
            have hs2 := hcum.size
            clear ho1 hg1 hat1 hcum
            refine hK.out _ _ ⟨p1, p2, p3, p4⟩ (fun hHeld => ?_)
            clear hK KK
            try simp only [Act.put, List.setIfInBounds_toArray, List.set_cons_zero, List.set_cons_succ]
            refine take_last (i := 15) (v := ?_) (by rfl) (by kernel_rfl) (by exact (fun _ _ _ h => h)) (by rfl) hHeld ?_ ?_
            rotate_left
            · ((intro V hV; obtain ⟨hV0, hV1, hV2, hV3⟩ := hV; go_simp) <;> (with_reducible rfl))
            try simp only [Act.put, List.setIfInBounds_toArray, List.set_cons_zero, List.set_cons_succ]
            refine next_last (i := 16) (by rfl) (by kernel_rfl) (fun KK hK => ?_)
            go_simp
            refine hK.out _ _ (keep4' ((Upd.refl _ _).alloc _) ⟨p1, p2, p3, p4⟩) (fun hHeld => ?_)
            clear hK KK
            try simp only [Act.put, List.setIfInBounds_toArray, List.set_cons_zero, List.set_cons_succ]
            refine next_last (i := 17) (by rfl) (by kernel_rfl) (fun KK hK => ?_)
            have hown2 := own_upd HOl.out HCum.out (fun _ _ h => h)
            have hB2 := (HB.out.upd HU3.out (fun h => h)).upd HCum.out (fun h => h)
            have hH2 := HH3.out.upd HCum.out (fun h => h)
            have HB2 := Lib.hid hB2
            have HH2 := Lib.hid hH2
            have HOwn2 := Lib.hid hown2
            clear hown2 hB2 hH2
            refine step_app _ (by rfl) _ _ 28 (by rfl) w.heap.size 55 j0 _ 5 56 Try.underlying28 hj0 hy0 hy1 hy2 rfl (by decide) _ os.length (ocells 0 L0) (by rfl) (HOwn2.out.alloc _) _ _ _ [.int .i64 (T : Int), .int .i64 (K : Int), .int .i64 (L : Int), .int .i64 (Pn : Int), .slice b1 L c1] (by rfl) rfl (fun j u hu => ⟨_, rfl, cells_new _ _ _ j u hu⟩) (by simp [Value.oneCell']) (by simp only [maxLen]; omega) (by omega) (by simp only [World.size_alloc] at *; omega) ?_
            intro v2 w5 ho2 hg2 hat2
            obtain ⟨b2, c2, rfl⟩ := own_form ho2
            have u5 : Upd (fun k => (Value.slice va os.length vc).ownBlock = some k) w2 w5 := ((Upd.refl _ w2).alloc (.cells #[.int .i64 (T : Int), .int .i64 (K : Int), .int .i64 (L : Int), .int .i64 (Pn : Int), .slice b1 L c1] 55)).grown hg2 (fun k hk _ => hk)
            have hB5 := HB2.out.upd u5 (fun h => own_offR HOwn2.out HB2.out (by decide) h)
            have hH5 := HH2.out.upd u5 (fun h => own_offR HOwn2.out HH2.out (by decide) h)
            have z1 := hB5.cell 1 rfl
            have z2 := hH5.cell 0 rfl
            have z3 := hH5.cell 1 rfl
            have z4 := hH5.cell 2 rfl
            have zf := hB5.frozen 1
            have zl := hB5.lt
            have HB5 := Lib.hid hB5
            have HH5 := Lib.hid hH5
            have HO5 := Lib.hid ho2
            have HU5 := Lib.hid u5
            clear ho2 hg2 hat2 u5 hB5 hH5
            refine hK.out _ _ ⟨z1, z2, z3, z4⟩ (fun hHeld => ?_)
            clear hK KK
            try simp only [Act.put, List.setIfInBounds_toArray, List.set_cons_zero, List.set_cons_succ]
            refine take_last (i := 18) (v := ?_) (by rfl) (by kernel_rfl) (by exact (fun _ _ _ h => h)) (by rfl) hHeld ?_ ?_
            rotate_left
            · ((intro V hV; obtain ⟨hV0, hV1, hV2, hV3⟩ := hV; go_simp) <;> (with_reducible rfl))
            try simp only [Act.put, List.setIfInBounds_toArray, List.set_cons_zero, List.set_cons_succ]
            refine last_end (by kernel_rfl) (by rfl) (fun KK hK => ?_)
            go_simp
            refine hK.out _ _ ?_
            clear hK KK
            generalize (if cap = T + 1 then some (⟨bz, off, none⟩ : Addr) else some ⟨bz, off + (T + 1), none⟩) = zz
            go_wp2_with fail
            go_meet
            case rel =>
              have hS5 : ∀ k, (Value.slice va os.length vc).ownBlock = some k → w.heap.size < k := by
                intro k hk
                have h1 := (HOwn2.out.lt k hk).1
                have h2 : k ≠ w.heap.size := fun e => own_offR HOwn2.out ((HR.out.upd HU3.out (fun h => h)).upd HCum.out (fun h => h)) (by decide) (e ▸ hk)
                omega
              have hlw : (ws.take L).length = L := by rw [List.length_take]; omega
              have hrow : ∀ p ∈ L0 ++ [(obOf x (ws.take L), Value.slice b1 L c1)], w2.ownsRow w.heap.size 3 1 p.2 p.1.ws.length (nums p.1.ws) := by
                intro p hp
                rcases List.mem_append.1 hp with hp | hp
                · exact own_upd (own_upd (hL2 p hp) HU3.out (fun _ _ h => h)) HCum.out (fun _ _ h => h)
                · rw [List.mem_singleton] at hp
                  subst hp
                  have h1 := HO1.out
                  show w2.ownsRow w.heap.size 3 1 (.slice b1 L c1) (ws.take L).length (nums (ws.take L))
                  rw [hlw]
                  exact h1
              have uset : Upd (fun k => k = w.heap.size + 1) w5 (w5.setCell ⟨w.heap.size + 1, 1, none⟩ (.slice b2 (os.length + 1) c2)) := (Upd.refl _ w5).setCell _ (fun _ => rfl)
              refine ⟨.slice b2 (os.length + 1) c2, ⟨L0 ++ [(obOf x (ws.take L), .slice b1 L c1)], by simp [hL0], ?_, fun p hp => ?_⟩, HB5.out.set 1 _, ?_, ?_⟩
              · rw [ocells_snoc, hL0, List.length_append, Nat.zero_add, HT.out.symm, show (obOf x (ws.take L)).len = L from hlw, show ((obOf x (ws.take L)).kind : Int) = (K : Int) by have := HK.out; simp only [obOf]; omega, show ((obOf x (ws.take L)).ptrs : Int) = (Pn : Int) by have := HPn.out; simp only [obOf]; omega]
                exact own_upd HO5.out uset (fun g hg e => own_offR HO5.out HB5.out (by decide) (e ▸ hg))
              · have h5 := own_upd (hrow p hp) HU5.out (fun g hg e => own_apartR (hrow p hp) HOwn2.out (by decide) g hg e)
                exact own_upd h5 uset (fun g hg e => own_offR h5 HB5.out (by decide) (e ▸ hg))
              · exact (HH5.out.upd uset (by omega)).cell 1 rfl
              · exact (((HCum.out.mono (fun _ _ h => h.elim)).trans (HU5.out.mono (fun k _ hk => hS5 k hk))).setCell _ (fun _ => Nat.lt_succ_self _))
          case rest =>
            obtain ⟨v', hO', hB', hc', hU'⟩ := hcut
            have hLw : (ws.take L).length = L := by rw [List.length_take]; omega
            have htop : top (os ++ [obOf x (ws.take L)]) = T + (1 + L) := by
              rw [top_append, top_cons, top_nil, ← HT.out]
              simp only [obOf, Ob.len, List.length_take]
              omega
            have hfl : flat os ++ x :: ws = flat (os ++ [obOf x (ws.take L)]) ++ ws.drop L := by
              rw [flat_append]
              simp only [flat, List.append_nil, List.append_assoc, List.cons_append, obOf_word HOk.out (hLw.trans HLe.out)]
              simp only [obOf, List.take_append_drop]
            have hgood : ∀ o ∈ os ++ [obOf x (ws.take L)], o.good := by
              intro o ho
              rcases List.mem_append.1 ho with ho | ho
              · exact HGd.out o ho
              · rw [List.mem_singleton] at ho
                subst ho
                exact obOf_good HOk.out (hLw.trans HLe.out)
            have hp3 : parse u [] (W.take u) = parse g' (os ++ [obOf x (ws.take L)]) ((ws.drop L).take (u - (T + (1 + L)))) := by
              have e1 : lenOf x ≤ (ws.take (u - T - 1)).length := by rw [← HLe.out, List.length_take]; omega
              rw [HP2.out, if_pos ⟨HOk.out, e1⟩, ← HLe.out, List.take_take, List.drop_take, show min L (u - T - 1) = L by omega, show u - T - 1 - L = u - (T + (1 + L)) by omega]
            have hR3 := ((HR.out.upd HU3.out (fun h => h)).upd hU' (by omega))
            have hUU := (HU.out.trans HU3.out).next hU' (fun i hi e => by omega)
            have HTop := Lib.hid htop
            have HFl := Lib.hid hfl
            have HGood := Lib.hid hgood
            have HP3 := Lib.hid hp3
            have HO' := Lib.hid hO'
            have HB' := Lib.hid hB'
            have HR' := Lib.hid hR3
            have HU' := Lib.hid hUU
            have m3 : IntKind.i64.wrap ((T : Int) + 1 + (L : Int)) = (T : Int) + 1 + (L : Int) := IntWalk.i64_in _ (by omega)
            clear hLw htop hfl hgood hp3 hO' hB' hR3 hUU hU' q0 q1 q2 k1
            go_wp2
            go_roundg g'
            case rel =>
              refine ⟨os ++ [obOf x (ws.take L)], ws.drop L, v', ?_, ?_, by rw [HTop.out]; omega, by rw [HTop.out]; omega, by rw [HTop.out]; exact HP3.out, HGood.out, HO'.out, HB'.out, HR'.out, HU'.out⟩
              · rw [← HFl.out]; exact HWr.out
              · rw [HTop.out, show (((T + (1 + L)) : Nat) : Int) = (T : Int) + 1 + (L : Int) by omega]
            case measure => exact Nat.lt_succ_self _
    · have d3 : decide ((T : Int) < (u : Int)) = false := decide_eq_false (by omega)
      have d3' : decide (T < u) = false := decide_eq_false hlt
      have hend : parse u [] (W.take u) = some os := by
        rw [HP.out, ← HT.out, show u - T = 0 by omega, List.take_zero, parse_nil]
      have HE := Lib.hid hend
      have hosl : os.length ≤ top os := by
        have : ∀ l : List Ob, l.length ≤ top l := by
          intro l
          induction l with
          | nil => exact Nat.le_refl _
          | cons o l ih => rw [top_cons, List.length_cons]; omega
        exact this os
      have hosl2 : os.length ≤ 65536 := by have := HT.out; omega
      have HOl := Lib.hid hosl2
      clear hend hosl hosl2
      go_wp2
      have uR : Upd (fun k => k = w.heap.size) wr ((wr.setCell ⟨w.heap.size, 0, none⟩ (.int .i64 (W.length : Int))).setCell ⟨w.heap.size, 1, none⟩ (.slice va os.length vc)) := ((Upd.refl (fun k => k = w.heap.size) wr).setCell _ (fun _ => rfl)).setCell _ (fun _ => rfl)
      have hoff : ∀ (base : Nat) (e : TypeId) (size : Nat) (x : Value) (n : Nat) (ys : List Value), wr.ownsRow base e size x n ys → e ≠ 30 → ∀ g, x.ownBlock = some g → ¬ g = w.heap.size := fun base e size x n ys hx hne g hg e' => own_offR hx HR.out hne (e' ▸ hg)
      obtain ⟨L, hL, ho, hr⟩ := HO.out
      refine bodyPost_ret (res_cell_tmp rfl _ _ w.heap.size _ 30 _ _ rfl rfl ((HR.out.set 0 _).set 1 _) Try.underlying30 rfl (by kernel_rfl)) rfl ⟨(HU.out.setCell _ (fun h => by have h' : w.heap.size < w.heap.size := h; omega)).setCell _ (fun h => by have h' : w.heap.size < w.heap.size := h; omega), ?_⟩
      rw [HE.out]
      exact ⟨_, rfl, ⟨⟨L, hL, own_upd ho uR (hoff _ _ _ _ _ _ ho (by decide)), fun p hp => IntsAt.of_own (own_upd (hr p hp) uR (hoff _ _ _ _ _ _ (hr p hp) (by decide)))⟩, HOl.out, HGd.out⟩⟩
end Go.Proofs.Ytlphlaenecidiaa.Ref
