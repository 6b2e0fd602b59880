/- Contracts of package graph: a node's head; a form's own heap. -/
import Derived.Test.YtlphlaenecidiaaFormHeapP
import Derived.Test.YtlphlaenecidiaaGraph3
import Derived.Test.YtlphlaenecidiaaHead
set_option linter.unusedSimpArgs false
namespace Go.Proofs.Ytlphlaenecidiaa.Graph
open Go.RowKit Go.Proofs.Ytlphlaenecidiaa.Mem Go.Proofs.Ytlphlaenecidiaa.Obj Go.Proofs.Ytlphlaenecidiaa.Heap Go.Proofs.Ytlphlaenecidiaa.Ref

set_option maxHeartbeats 1000000 in
theorem head_any (w : World) (k : Int) (ea wa : Option Addr) (en ec wn wc : Nat) (s : Int) (hs : IntKind.i64.wrap ((en : Int) + (wn : Int)) = s) :
    Calls Try.prog 40 #[.agg #[.int .i64 k, .slice ea en ec, .slice wa wn wc]] w fun e w' => e = .returned (.agg #[.int .i64 k, .int .i64 s, .int .i64 (en : Int)]) ∧ Upd (fun _ => False) w w' := by
  have hb := Blk.made' w (.cells #[.int .i64 k, .slice ea en ec, .slice wa wn wc] 66) [.int .i64 k, .int .i64 s, .int .i64 (en : Int)] 53
  have hu := ((Upd.refl (fun _ => False) w).alloc (.cells #[.int .i64 k, .slice ea en ec, .slice wa wn wc] 66)).alloc (.cells #[.int .i64 k, .int .i64 s, .int .i64 (en : Int)] 53)
  have HB := Lib.hid hb
  have HU := Lib.hid hu
  clear hb hu
  go_enter Try.func40, Try.ntmps40
  go_wp2
  refine bodyPost_ret (results_cell_row rfl _ _ (w.heap.size + 1) 53 #[.int .i64 k, .int .i64 s, .int .i64 (en : Int)] (0, 0) _ rfl HB.out Try.underlying53 rfl (by kernel_rfl)) rfl ⟨rfl, HU.out⟩

theorem keepS {S : Nat → Prop} {w w' : World} (h : Upd S w w') {p : Addr} {x : Value} (hc : w.cell? p = some x) (hp : ¬ S p.block) : w'.cell? p = some x := by
  have hb := World.block_lt_of_cell? w p hc
  rw [World.cell?, h.block p.block hb hp]
  exact hc

/-- What comes of Heap. -/
def HeapEnd (w : World) (nds : List Nd) (ks : List Int) (size : Int) (e : Ending) (w' : World) : Prop :=
  Upd (fun _ => False) w w' ∧ (Right nds ks size → ∃ h wb sb v, e = .returned (.tuple #[.pointer (some ⟨h, 0, none⟩), v, .int .i64 0]) ∧ HeapAt w' h wb sb size.toNat (nds.map (full nds)) (List.replicate (size.toNat - nwords nds) 0) ∧
    w'.ownsRow w.heap.size 3 1 v ks.length (ints (ks.map (fun k => refAt nds k.toNat))) ∧ w.heap.size ≤ h ∧ w.heap.size ≤ wb ∧ w.heap.size ≤ sb) ∧ (¬ Right nds ks size → e = .returned (.tuple #[.pointer none, .slice none 0 0, .int .i64 1]))
theorem HeapEnd.no {w w' : World} {nds : List Nd} {ks : List Int} {size : Int} (hu : Upd (fun _ => False) w w') (h : ¬ Right nds ks size) : HeapEnd w nds ks size (.returned (.tuple #[.pointer none, .slice none 0 0, .int .i64 1])) w' :=
  ⟨hu, fun hr => absurd hr h, fun _ => rfl⟩

/-- While nodes are placed. -/
def Placing (w0 w1 : World) (nds : List Nd) (h wb sb n rb : Nat) (i : Value) (wr : World) : Prop :=
  ∃ (k : Nat) (v : Value), k ≤ nds.length ∧ i = .int .i64 (k : Int) ∧ nwords (nds.take k) ≤ n ∧ (∀ m ∈ nds.take k, 0 ≤ m.kind ∧ m.kind ≤ 14 ∧ m.edges.length + m.words.length ≤ 4095) ∧ HeapAt wr h wb sb n ((nds.take k).map blankOb) (List.replicate (n - nwords (nds.take k)) 0) ∧
    Blk wr rb [v] 22 ∧ wr.ownsRow w1.heap.size 3 1 v (k + 1) (ints (refs nds k)) ∧ Upd (fun _ => False) w0 wr
/-- All that stands while they are written. -/
structure Desk (w0 w1 : World) (nds : List Nd) (h wb sb n rb : Nat) (v : Value) (os : List Ob) (wr : World) : Prop where
  heap : HeapAt wr h wb sb n os (List.replicate (n - nwords nds) 0)
  rbk : Blk wr rb [v] 22
  rows : wr.ownsRow w1.heap.size 3 1 v (nds.length + 1) (ints (refs nds nds.length))
  upd : Upd (fun _ => False) w0 wr
theorem Desk.quiet {w0 w1 wr wr' : World} {nds : List Nd} {h wb sb n rb : Nat} {v : Value} {os : List Ob} (D : Desk w0 w1 nds h wb sb n rb v os wr) (u : Upd (fun _ => False) wr wr') : Desk w0 w1 nds h wb sb n rb v os wr' :=
  ⟨D.heap.quiet u, D.rbk.upd u (fun h => h), own_upd D.rows u (fun _ _ h => h), D.upd.trans u⟩
theorem Desk.step {w0 w1 wr wr' : World} {nds : List Nd} {h wb sb n rb : Nat} {v : Value} {os os' : List Ob} (D : Desk w0 w1 nds h wb sb n rb v os wr) (u : Upd (fun k => k = wb) wr wr') (hh : HeapAt wr' h wb sb n os' (List.replicate (n - nwords nds) 0)) (h1 : wb < w1.heap.size) (h2 : w1.heap.size ≤ rb) (h3 : w0.heap.size ≤ wb) : Desk w0 w1 nds h wb sb n rb v os' wr' :=
  ⟨hh, D.rbk.upd u (by omega), own_upd D.rows u (fun g hg => by have := (D.rows.lt g hg).1; omega), D.upd.next u (fun i hi e => by omega)⟩
/-- While they are filled. -/
def Writing (w0 w1 : World) (nds : List Nd) (h wb sb n rb : Nat) (v : Value) (i : Value) (wr : World) : Prop :=
  ∃ k : Nat, k ≤ nds.length ∧ i = .int .i64 (k : Int) ∧ (∀ m ∈ nds.take k, ∀ e ∈ m.edges, 0 ≤ e ∧ e ≤ nds.length) ∧ Desk w0 w1 nds h wb sb n rb v (filled nds k) wr
/-- While a node's edges are. -/
def Edging (w0 w1 : World) (nds : List Nd) (h wb sb n rb : Nat) (v : Value) (k : Nat) (nd : Nd) (nb : Nat) (cs : List Value) (i : Value) (wr : World) : Prop :=
  ∃ f : Nat, f ≤ nd.edges.length ∧ i = .int .i64 (f : Int) ∧ (∀ e ∈ nd.edges.take f, 0 ≤ e ∧ e ≤ nds.length) ∧ Desk w0 w1 nds h wb sb n rb v (filling nds k nd f) wr ∧ Blk wr nb cs 66
/-- While its words are. -/
def Wording (w0 w1 : World) (nds : List Nd) (h wb sb n rb : Nat) (v : Value) (k : Nat) (nd : Nd) (nb : Nat) (cs : List Value) (i : Value) (wr : World) : Prop :=
  ∃ f : Nat, f ≤ nd.words.length ∧ i = .int .i64 (f : Int) ∧ Desk w0 w1 nds h wb sb n rb v (filling nds k nd (nd.edges.length + f)) wr ∧ Blk wr nb cs 66

/-- Is a number one of a node, or none? -/
theorem is_num (w : World) (rb : Nat) (va : Option Addr) (vn vc : Nat) (hr : Blk w rb [.slice va vn vc] 22) (x : Int) :
    Calls Try.prog 41 #[.int .i64 x, .pointer (some ⟨rb, 0, none⟩)] w fun e w' => e = .returned (.bool (decide (0 ≤ x ∧ x < (vn : Int)))) ∧ Upd (fun _ => False) w w' := by
  have r0 := hr.cell 0 rfl
  have rl := hr.lt
  clear hr
  by_cases h0 : 0 ≤ x
  · by_cases h1 : x < (vn : Int)
    · rw [decide_eq_true (show 0 ≤ x ∧ x < (vn : Int) from ⟨h0, h1⟩)]
      have d0 : decide (0 ≤ x) = true := decide_eq_true h0
      have d1 : decide (x < (vn : Int)) = true := decide_eq_true h1
      clear h0 h1
      go_enter Try.func41, Try.ntmps41
      go_wp2
      go_ret
      exact ⟨rfl, Upd.refl _ _⟩
    · rw [decide_eq_false (show ¬ (0 ≤ x ∧ x < (vn : Int)) from fun h => h1 h.2)]
      have d0 : decide (0 ≤ x) = true := decide_eq_true h0
      have d1 : decide (x < (vn : Int)) = false := decide_eq_false h1
      clear h0 h1
      go_enter Try.func41, Try.ntmps41
      go_wp2
      go_ret
      exact ⟨rfl, Upd.refl _ _⟩
  · rw [decide_eq_false (show ¬ (0 ≤ x ∧ x < (vn : Int)) from fun h => h0 h.1)]
    have d0 : decide (0 ≤ x) = false := decide_eq_false h0
    clear h0
    go_enter Try.func41, Try.ntmps41
    go_wp2
    go_ret
    exact ⟨rfl, Upd.refl _ _⟩

set_option maxRecDepth 20000 in
set_option maxHeartbeats 4000000 in
theorem heap_any (w : World) (va vn : Value) (ks : List Int) (nds : List Nd) (hk : IntsAt w va ks) (hn : NodesAt w vn nds) (hkl : ks.length ≤ 1000000) (hnl : nds.length ≤ 1000000) (size : Int)
    (hlen : ∀ n ∈ nds, n.edges.length ≤ 9223372036854775807 ∧ n.words.length ≤ 9223372036854775807) (hw64 : ∀ n ∈ nds, ∀ x ∈ n.words, -9223372036854775808 ≤ x ∧ x ≤ 9223372036854775807) :
    Calls Try.prog 22 #[.agg #[va, vn], .int .i64 size] w (HeapEnd w nds ks size) := by
  obtain ⟨i0, hi0, hz0, hz1, hz2⟩ := info_parts Heap.infoInt
  obtain ⟨aa, ac, rfl⟩ := hk.form
  obtain ⟨na, nc, rfl⟩ := hn.form
  have hu0 := (Upd.refl (fun _ => False) w).alloc (.cells #[.slice aa ks.length ac, .slice na nds.length nc] 35)
  have HB0 := Lib.hid (Blk.made w [.slice aa ks.length ac, .slice na nds.length nc] 35)
  have HU0 := Lib.hid hu0
  have HK := Lib.hid (hk.quiet hu0)
  have HN := Lib.hid (hn.quiet hu0)
  have HLen := Lib.hid hlen
  have H64 := Lib.hid hw64
  have hs0 : w.heap.size < (w.alloc (.cells #[.slice aa ks.length ac, .slice na nds.length nc] 35)).heap.size := by rw [World.size_alloc]; omega
  by_cases hsz : size < 1 ∨ 65536 < size
  · have hno : ¬ Right nds ks size := fun h => by have := h.lo; have := h.hi; omega
    have HNo := Lib.hid hno
    have HNew := Lib.hid (new_no size (w.alloc (.cells #[.slice aa ks.length ac, .slice na nds.length nc] 35)) hsz)
    clear hk hn hu0 hlen hw64 hno
    go_enter Try.func22, Try.ntmps22
    go_wp2_with fail
    refine (HNew.out).mono ?_
    rintro e w1 ⟨rfl, rfl⟩
    go_wp2
    go_ret3
    exact .no HU0.out HNo.out
  · obtain ⟨n, rfl⟩ : ∃ n : Nat, size = (n : Int) := ⟨size.toNat, by omega⟩
    have HNew := Lib.hid (new_yes n (w.alloc (.cells #[.slice aa ks.length ac, .slice na nds.length nc] 35)) (by omega) (by omega))
    clear hk hn hu0 hlen hw64
    go_enter Try.func22, Try.ntmps22
    go_wp2_with fail
    generalize w.alloc (.cells #[.slice aa ks.length ac, .slice na nds.length nc] 35) = w0 at *
    refine (HNew.out).mono ?_
    rintro e w1 ⟨h, wb, sb, rfl, hH, g1, g2, g3, hu1⟩
    have hB1 := HB0.out.upd hu1 (fun h => h)
    have b0 := hB1.cell 0 rfl
    have b1 := hB1.cell 1 rfl
    have bl := hB1.lt
    have hl1 := hH.str.lt
    have hl2 := hH.wds.lt
    have hl3 := hH.sts.lt
    have hal := ((Upd.refl (fun _ => False) w1).alloc (.cells #[.int .i64 0] 3)).alloc (.cells #[.slice (some ⟨w1.heap.size, 0, none⟩) 1 1] 22)
    have hH2 := hH.quiet hal
    have hR2 := Blk.made' w1 (.cells #[.int .i64 0] 3) [.slice (some ⟨w1.heap.size, 0, none⟩) 1 1] 22
    have hO2 : ((w1.alloc (.cells #[.int .i64 0] 3)).alloc (.cells #[.slice (some ⟨w1.heap.size, 0, none⟩) 1 1] 22)).ownsRow w1.heap.size 3 1 (.slice (some ⟨w1.heap.size, 0, none⟩) 1 1) 1 (ints (refs nds 0)) := by
      have h1 := World.ownsRow_lit (base := w1.heap.size) (size := 1) (e := 3) w1 #[.int .i64 0] 1 (Nat.le_refl _) (by decide) rfl
      exact h1.alloc _
    have HH2 := Lib.hid hH2
    have HR2 := Lib.hid hR2
    have HO2 := Lib.hid hO2
    have HU2 := Lib.hid (hu1.trans hal)
    have hu1s : w0.heap.size ≤ w1.heap.size := hu1.size
    clear hH hB1 hu1 hal hH2 hR2 hO2
    go_wp2
    go_loopw [36] (fun i wr => Placing w0 w1 nds h wb sb n (w1.heap.size + 1) i wr) (fun i _ => nds.length - (intOf i).toNat)
    case atStart => exact ⟨0, _, Nat.zero_le _, rfl, Nat.zero_le _, (fun m hm => by cases hm), HH2.out, HR2.out, HO2.out, HU2.out⟩
    case round =>
      obtain ⟨k, v, hk, rfl, hfit, hgood, hH, hR, hO, hU⟩ := hrel
      have HFit := Lib.hid hfit
      have HGood := Lib.hid hgood
      have HH := Lib.hid hH
      have HR := Lib.hid hR
      have HO := Lib.hid hO
      have HU := Lib.hid hU
      obtain ⟨va, vc, rfl⟩ := own_form hO
      have hUs := hU.size
      have hrl := hR.lt
      clear hfit hgood hH hR hO hU
      by_cases hlk : k < nds.length
      · obtain ⟨⟨kind, es, ws⟩, hnd⟩ : ∃ nd, nds[k]? = some nd := ⟨_, List.getElem?_eq_getElem hlk⟩
        obtain ⟨a', c', e', hx⟩ := HN.out.quiet HU.out
        cases e'
        obtain ⟨b, o, ve, vw, rfl, hbl, c0, c1, c2, he, hw⟩ := hx k _ hnd
        have hmem := List.mem_of_getElem? hnd
        have hl2 := HLen.out _ hmem
        have htk := nwords_take hnd
        have hlw := nwords_mem hnd
        dsimp only at c0 he hw hl2 htk hlw
        obtain ⟨ea, ec, rfl⟩ := he.form
        obtain ⟨wa, wc, rfl⟩ := hw.form
        have d1 : decide ((k : Int) < (nds.length : Int)) = true := decide_eq_true (by omega)
        have d1' : decide (k < nds.length) = true := decide_eq_true hlk
        have i1 : (0 : Int) ≤ (k : Int) := by omega
        have i2 : (k : Int) < (nds.length : Int) := by omega
        have hal := (Upd.refl (fun _ => False) wr).alloc (.cells #[.int .i64 kind, .slice ea es.length ec, .slice wa ws.length wc] 66)
        have hnb := Blk.made wr [.int .i64 kind, .slice ea es.length ec, .slice wa ws.length wc] 66
        have htop := top_map blankOb (nds.take k) (fun n _ => blankOb_len n)
        have HNb := Lib.hid hnb
        have HAl := Lib.hid hal
        have HNd := Lib.hid hnd
        have HTk := Lib.hid htk
        have HTop := Lib.hid htop
        have HMem := Lib.hid hmem
        obtain ⟨T, hT⟩ : ∃ T, T = nwords (nds.take k) := ⟨_, rfl⟩
        rw [← hT] at hlw htop
        have hTn : T ≤ n := by rw [hT]; exact HFit.out
        have HT := Lib.hid hT
        clear hal hnb hx he hw hnd htk hmem htop hT
        by_cases hg : 0 ≤ kind ∧ kind ≤ 15 ∧ es.length + ws.length ≤ 4095 ∧ (kind = 15 → es.length = 0)
        · obtain ⟨kn, rfl⟩ : ∃ kn : Nat, kind = (kn : Int) := ⟨kind.toNat, by omega⟩
          obtain ⟨el, hel⟩ : ∃ el, el = es.length + ws.length := ⟨_, rfl⟩
          have hse : IntKind.i64.wrap ((es.length : Int) + (ws.length : Int)) = (el : Int) := by rw [IntWalk.i64_in _ (by omega)]; omega
          have HHd := Lib.hid (head_any (wr.alloc (.cells #[.int .i64 (kn : Int), .slice ea es.length ec, .slice wa ws.length wc] 66)) kn ea wa es.length ec ws.length wc _ hse)
          have hgb : goodB (kn : Int) (el : Int) (es.length : Int) = true := goodB_yes (by omega)
          have hkn15 : kn ≤ 15 := by omega
          by_cases hf : 1 + el ≤ n - T
          · have hpl := fun (W : World) (hu : Upd (fun _ => False) wr W) => place_yes W h wb sb n ((nds.take k).map blankOb) (List.replicate (n - nwords (nds.take k)) 0) (HH.out.quiet hu) kn el es.length hgb (by rw [List.length_replicate, ← HT.out]; exact hf)
            simp only [HTop.out, ← HT.out] at hpl
            have HPl := Lib.hid hpl
            have HGb := Lib.hid hgb
            have HEl := Lib.hid hel
            have HG := Lib.hid hg
            clear hpl hgb hel hg hse
            go_wp2_with fail
            refine (HHd.out).mono ?_
            rintro e w2 ⟨rfl, hu2⟩
            have HU2 := Lib.hid (HAl.out.trans hu2)
            have HNb2 := Lib.hid (HNb.out.upd hu2 (fun h => h))
            clear hu2 c0 c1 c2
            go_wp2_with fail
            refine (HPl.out _ HU2.out).mono ?_
            rintro e w3 ⟨rfl, hH3, hu3⟩
            have hoff : ∀ g, (Value.slice va (k + 1) vc).ownBlock = some g → ¬ (g = h ∨ g = wb ∨ g = sb) := fun g hg => by have := (HO.out.lt g hg).1; omega
            have hnb3 := HNb2.out.upd hu3 (by omega)
            have hR3 := (HR.out.upd HU2.out (fun h => h)).upd hu3 (by omega)
            have hO3 := own_upd (own_upd HO.out HU2.out (fun _ _ h => h)) hu3 hoff
            have hU3 := (HU.out.trans HU2.out).next hu3 (fun i hi h => by have := hu1s; omega)
            have z0 := hnb3.cell 0 rfl
            have zl := hnb3.lt
            have r0 := hR3.cell 0 rfl
            have hs3 := hu3.size
            have HH3 := Lib.hid hH3
            have HR3 := Lib.hid hR3
            have HO3 := Lib.hid hO3
            have HU3 := Lib.hid hU3
            clear hu3 hH3 hnb3 hR3 hO3 hU3 hoff
            by_cases hk15 : kn = 15
            · have dk : ((kn : Int) == 15) = true := by rw [beq_iff_eq]; omega
              have hno : ¬ Right nds ks (n : Int) := fun hr => by have := (hr.each _ HMem.out).2.1; dsimp only at this; omega
              have HNo := Lib.hid hno
              clear hno hk15
              go_wp2
              go_ret3
              exact .no (HU0.out.trans HU3.out) HNo.out
            · have dk : ((kn : Int) == 15) = false := by rw [beq_eq_false_iff_ne]; omega
              have w1' : IntKind.i64.wrap (1 + (T : Int)) = (T : Int) + 1 := by rw [IntWalk.i64_in _ (by omega)]; omega
              go_wp2_with (first | (at_builtin; refine wpList_append_lies _ rfl _ _ 22 rfl w1.heap.size 3 i0 _ 1 8 Try.underlying22 hi0 hz0 hz1 hz2 rfl (by decide) _ _ _ rfl (HO3.out.alloc _) ⟨w3.heap.size, 0, none⟩ 1 1 [.int .i64 ((T : Int) + 1)] rfl rfl ?c1 ?c2 (by decide) ?c3 ?c4 ?c5 _ rfl ?_))
              case c1 => exact cells_new _ _ _
              case c2 => simp [Value.oneCell']
              case c3 => simp only [maxLen]; omega
              case c4 => omega
              case c5 => simp only [World.size_alloc]; omega
              intro g cap2 w4 hV4 hg4 hat4 hlt4
              have hoff : ∀ g, (Value.slice va (k + 1) vc).ownBlock = some g → ¬ (g = h ∨ g = wb ∨ g = sb) := fun g hg => by have := (HO.out.lt g hg).1; omega
              have u4 : Upd (fun j => (Value.slice va (k + 1) vc).ownBlock = some j) w3 w4 := ((Upd.refl _ w3).alloc (.cells #[.int .i64 ((T : Int) + 1)] 3)).grown hg4 (fun k hk _ => hk)
              have hR4 := HR3.out.upd u4 (own_off HO3.out HR3.out (by decide))
              have hH4 := HH3.out.upd u4 (fun e => hoff _ e (.inl rfl)) (fun e => hoff _ e (.inr (.inl rfl))) (fun e => hoff _ e (.inr (.inr rfl)))
              have hU4 := HU3.out.next u4 (fun i hi e => by have := (HO.out.lt i e).1; omega)
              have hs4 := hU4.size
              clear r0 z0 zl
              have r0 := hR4.cell 0 rfl
              have rf0 := hR4.frozen 0
              have rl := hR4.lt
              have HR4 := Lib.hid hR4
              have HH4 := Lib.hid hH4
              have HU4 := Lib.hid hU4
              have HV4 := Lib.hid hV4
              clear hR4 hH4 hU4 hV4 hg4 hat4 hlt4 u4 hoff
              go_wp2
              go_roundw
              case rel =>
                have u : Upd (fun j => j = w1.heap.size + 1) w4 (w4.setCell ⟨w1.heap.size + 1, 0, none⟩ (.slice (some ⟨g, 0, none⟩) (k + 1 + 1) cap2)) := (Upd.refl _ w4).setCell _ (fun _ => rfl)
                refine ⟨k + 1, .slice (some ⟨g, 0, none⟩) (k + 1 + 1) cap2, by omega, by go_num, ?_, ?_, ?_, HR4.out.set 0 _, ?_, HU4.out.next u (fun i hi e => by omega)⟩
                · rw [HTk.out, ← HT.out]; have := HEl.out; omega
                · intro m hm
                  rw [List.take_add_one, HNd.out, Option.toList_some] at hm
                  rcases List.mem_append.1 hm with hm | hm
                  · exact HGood.out m hm
                  · rw [List.mem_singleton] at hm
                    subst hm
                    have := HG.out
                    dsimp only
                    omega
                · have h1 := HH4.out.upd u (by omega) (by omega) (by omega)
                  rw [List.take_add_one, HNd.out, Option.toList_some, List.map_append, nwords_append]
                  rw [List.drop_replicate, HEl.out, ← Nat.sub_sub] at h1
                  have e1 : nwords [(⟨(kn : Int), es, ws⟩ : Nd)] = 1 + (es.length + ws.length) := by simp only [nwords]; omega
                  rw [e1, ← HT.out]
                  simpa [blankOb, Nat.sub_sub, Nat.add_assoc] using h1
                · have h1 := own_upd HV4.out u (fun g' hg' e => own_off HV4.out HR4.out (by decide) (e ▸ hg'))
                  rw [refs_snoc, ← HT.out]
                  simpa [ints] using h1
              case measure => simp [intOf]; omega
          · have hpl := fun (W : World) (hu : Upd (fun _ => False) wr W) => place_full W h wb sb n ((nds.take k).map blankOb) (List.replicate (n - nwords (nds.take k)) 0) (HH.out.quiet hu) kn el es.length hgb (by rw [List.length_replicate, ← HT.out]; omega)
            have HPl := Lib.hid hpl
            have hno : ¬ Right nds ks (n : Int) := fun hr => by have := hr.fits; omega
            have HNo := Lib.hid hno
            clear hpl hgb hel hg hse hno
            go_wp2_with fail
            refine (HHd.out).mono ?_
            rintro e w2 ⟨rfl, hu2⟩
            have HU2 := Lib.hid (HAl.out.trans hu2)
            clear hu2 c0 c1 c2
            go_wp2_with fail
            refine (HPl.out _ HU2.out).mono ?_
            rintro e w3 ⟨rfl, hu3⟩
            have HU3 := Lib.hid ((HU.out.trans HU2.out).trans hu3)
            clear hu3
            go_wp2
            go_ret3
            exact .no (HU0.out.trans HU3.out) HNo.out
        · obtain ⟨el, hel⟩ : ∃ el, el = IntKind.i64.wrap ((es.length : Int) + (ws.length : Int)) := ⟨_, rfl⟩
          have HHd := Lib.hid (head_any (wr.alloc (.cells #[.int .i64 kind, .slice ea es.length ec, .slice wa ws.length wc] 66)) kind ea wa es.length ec ws.length wc el hel.symm)
          have hgb : goodB kind el (es.length : Int) = false := by
            refine goodB_no fun hh => hg ?_
            by_cases hb : (es.length : Int) + (ws.length : Int) ≤ 9223372036854775807
            · rw [IntWalk.i64_in _ (by omega)] at hel
              omega
            · have : el = (es.length : Int) + (ws.length : Int) - 18446744073709551616 := by rw [hel, IntKind.wrap_i64]; omega
              omega
          have HPl := Lib.hid (fun W => place_bad W (.pointer (some ⟨h, 0, none⟩)) kind el (es.length : Int) hgb)
          have hno : ¬ Right nds ks (n : Int) := fun hr => hg (by have := hr.each _ HMem.out; dsimp only at this; omega)
          have HNo := Lib.hid hno
          clear hgb hel hg hno
          go_wp2_with fail
          refine (HHd.out).mono ?_
          rintro e w2 ⟨rfl, hu2⟩
          have HU2 := Lib.hid (HAl.out.trans hu2)
          clear hu2 c0 c1 c2
          go_wp2_with fail
          refine (HPl.out _).mono ?_
          rintro e w3 ⟨rfl, hu3⟩
          have HU3 := Lib.hid ((HU.out.trans HU2.out).trans hu3)
          clear hu3
          go_wp2
          go_ret3
          exact .no (HU0.out.trans HU3.out) HNo.out
      · have hke : k = nds.length := by omega
        subst hke
        have hB := HB0.out.upd HU.out (fun h => h)
        have b0 := hB.cell 0 rfl
        have b1 := hB.cell 1 rfl
        have bl := hB.lt
        have hfit := HFit.out
        have hgood := HGood.out
        have hD : Desk w0 w1 nds h wb sb n (w1.heap.size + 1) (.slice va (nds.length + 1) vc) (filled nds 0) wr := by
          have h1 := HH.out
          rw [List.take_length] at h1
          exact ⟨by rw [filled_zero]; exact h1, HR.out, HO.out, HU.out⟩
        rw [List.take_length] at hfit hgood
        have HD0 := Lib.hid hD
        clear hB hD HH HR HO HU HFit
        go_wp2
        go_loopw [64] (fun i wr => Writing w0 w1 nds h wb sb n (w1.heap.size + 1) (.slice va (nds.length + 1) vc) i wr) (fun i _ => nds.length - (intOf i).toNat)
        case atStart => exact ⟨0, Nat.zero_le _, rfl, (fun m hm => by cases hm), HD0.out⟩
        case round =>
          obtain ⟨k, hk2, rfl, hedge, hD⟩ := hrel
          have HEdge := Lib.hid hedge
          have HD := Lib.hid hD
          clear hedge hD b0 b1
          by_cases hlk : k < nds.length
          · obtain ⟨⟨kind, es, ws⟩, hnd⟩ : ∃ nd, nds[k]? = some nd := ⟨_, List.getElem?_eq_getElem hlk⟩
            obtain ⟨a', c', e', hx⟩ := HN.out
            cases e'
            obtain ⟨b, o, ve, vw, rfl, hbl, c0', c1', c2', he, hw⟩ := hx k _ hnd
            have c0 := keepS HD.out.upd c0' id
            have c1 := keepS HD.out.upd c1' id
            have c2 := keepS HD.out.upd c2' id
            have hmem := List.mem_of_getElem? hnd
            have hgd := hgood _ hmem
            have hlw := nwords_mem hnd
            dsimp only at c0 he hw hgd hlw
            obtain ⟨ea, ec, rfl⟩ := he.form
            obtain ⟨wa, wc, rfl⟩ := hw.form
            have d1 : decide ((k : Int) < (nds.length : Int)) = true := decide_eq_true (by omega)
            have d1' : decide (k < nds.length) = true := decide_eq_true hlk
            have i1 : (0 : Int) ≤ (k : Int) := by omega
            have i2 : (k : Int) < (nds.length : Int) := by omega
            have hal := (Upd.refl (fun _ => False) wr).alloc (.cells #[.int .i64 kind, .slice ea es.length ec, .slice wa ws.length wc] 66)
            have hnb := Blk.made wr [.int .i64 kind, .slice ea es.length ec, .slice wa ws.length wc] 66
            have hD2 := HD.out.quiet hal
            have hwsz := HD.out.upd.size
            have hrbl := HD.out.rbk.lt
            have HNb := Lib.hid hnb
            have HNd := Lib.hid hnd
            have HD2 := Lib.hid hD2
            have HE := Lib.hid he
            have HW := Lib.hid hw
            have HMem := Lib.hid hmem
            clear hal hnb hx he hw hnd hmem hD2 c0' c1' c2'
            go_wp2
            generalize hwn : wr.alloc (.cells #[.int .i64 kind, .slice ea es.length ec, .slice wa ws.length wc] 66) = wn at *
            have hwns : wn.heap.size = wr.heap.size + 1 := by rw [← hwn, World.size_alloc]
            clear hwn c0 c1 c2 HD
            generalize wr.heap.size = nb at *
            clear wr
            go_loopw [72] (fun i w3 => Edging w0 w1 nds h wb sb n (w1.heap.size + 1) (.slice va (nds.length + 1) vc) k ⟨kind, es, ws⟩ nb [.int .i64 kind, .slice ea es.length ec, .slice wa ws.length wc] i w3) (fun i _ => es.length - (intOf i).toNat)
            case atStart => exact ⟨0, Nat.zero_le _, rfl, (fun e he => by cases he), by rw [filling_zero HNd.out]; exact HD2.out, HNb.out⟩
            case round =>
              obtain ⟨f, hf, rfl, hok, hD3, hnb3⟩ := hrel
              have HOk := Lib.hid hok
              have HD3 := Lib.hid hD3
              have HNb3 := Lib.hid hnb3
              dsimp only at hf
              have hws3 := hD3.upd.size
              have z1 := hnb3.cell 1 rfl
              have zl := hnb3.lt
              clear hok hD3 hnb3
              by_cases hlf : f < es.length
              · obtain ⟨e, hef⟩ : ∃ e, es[f]? = some e := ⟨_, List.getElem?_eq_getElem hlf⟩
                obtain ⟨_, _, he', _, hxe⟩ := HE.out.quiet HD3.out.upd
                cases he'
                obtain ⟨be, oe, rfl, ce, le⟩ := hxe f e hef
                have d1 : decide ((f : Int) < (es.length : Int)) = true := decide_eq_true (by omega)
                have d1' : decide (f < es.length) = true := decide_eq_true hlf
                have i3 : (0 : Int) ≤ (f : Int) := by omega
                have i4 : (f : Int) < (es.length : Int) := by omega
                have his := is_num wr (w1.heap.size + 1) va (nds.length + 1) vc HD3.out.rbk e
                have hees := List.mem_of_getElem? hef
                have HEf := Lib.hid hef
                have HEes := Lib.hid hees
                by_cases hin : 0 ≤ e ∧ e < ((nds.length + 1 : Nat) : Int)
                · rw [decide_eq_true hin] at his
                  have HIs := Lib.hid his
                  clear his hxe hef hees
                  go_wp2_with fail
                  refine (HIs.out).mono ?_
                  rintro e1 w4 ⟨rfl, hu4⟩
                  obtain ⟨en, rfl⟩ : ∃ en : Nat, e = (en : Int) := ⟨e.toNat, by omega⟩
                  have henl : en ≤ nds.length := by omega
                  have hD4 := HD3.out.quiet hu4
                  have hnb4 := HNb3.out.upd hu4 (fun h => h)
                  obtain ⟨rg, rc, he'', hg1, hg2, _, _⟩ := own_some hD4.rows (by omega)
                  cases he''
                  have r0 := hD4.rbk.cell 0 rfl
                  have rl := hD4.rbk.lt
                  have q1 := own_at hD4.rows (k + 1) (u := .int .i64 (refAt nds (k + 1))) (by rw [ints, List.getElem?_map, refs_at nds (by omega)]; rfl)
                  have q2 := own_at hD4.rows en (u := .int .i64 (refAt nds en)) (by rw [ints, List.getElem?_map, refs_at nds henl]; rfl)
                  obtain ⟨T, hT⟩ : ∃ T, T = nwords (nds.take k) := ⟨_, rfl⟩
                  have hrk : refAt nds (k + 1) = (T : Int) + 1 := by rw [refAt, if_neg (by omega), Nat.add_sub_cancel, ← hT]; push_cast; rfl
                  rw [hrk] at q1
                  rw [← hT] at hlw
                  obtain ⟨X, hX⟩ : ∃ X, X = refAt nds en := ⟨_, rfl⟩
                  rw [← hX] at q2
                  have hXb : 0 ≤ X ∧ X ≤ 65537 := by
                    rw [hX, refAt]
                    split
                    · omega
                    · have := nwords_take_le nds (en - 1)
                      push_cast
                      omega
                  have hwx : (wordsOf nds ⟨kind, es, ws⟩)[f]? = some X := by
                    rw [wordsOf, List.getElem?_append_left (by rw [List.length_map]; exact hlf), List.getElem?_map, HEf.out, hX]
                    rfl
                  have hwr := fun (W : World) (hu : Upd (fun _ => False) w4 W) => write_yes W h wb sb n (filling nds k ⟨kind, es, ws⟩ f) (List.replicate (n - nwords nds) 0) (hD4.heap.quiet hu) T f (partOb nds ⟨kind, es, ws⟩ f) X (by omega)
                    (by rw [hT]; exact filling_find nds k _ f) (by rw [partOb_len nds _ (by dsimp only; omega)]; dsimp only; omega) (by show kind.toNat ≠ 15; omega) (fun _ => by rw [hX]; exact like_leads (filling_like HNd.out (by dsimp only; omega)) (fun m hm => ⟨(hgood m hm).1, (hgood m hm).2.1⟩) henl)
                  have hst : setWord (filling nds k ⟨kind, es, ws⟩ f) T f X = filling nds k ⟨kind, es, ws⟩ (f + 1) := by rw [hT]; exact filling_step nds k _ hwx
                  simp only [hst] at hwr
                  have s1 : IntKind.i64.wrap ((k : Int) + 1) = (k : Int) + 1 := IntWalk.i64_in _ (by omega)
                  have s2 : IntKind.i64.wrap (T : Int) = (T : Int) := IntWalk.i64_in _ (by omega)
                  have j1 : (0 : Int) ≤ (k : Int) + 1 := by omega
                  have j2 : (k : Int) + 1 < ((nds.length + 1 : Nat) : Int) := by omega
                  have j3 : (0 : Int) ≤ (en : Int) := by omega
                  have j4 : (en : Int) < ((nds.length + 1 : Nat) : Int) := by omega
                  have j5 : (en : Int) < (nds.length : Int) + 1 := by omega
                  have j6 : (en : Int) ≤ (nds.length : Int) := by omega
                  have r0' : w4.drew.cell? ⟨w1.heap.size + 1, 0, none⟩ = some (.slice (some ⟨rg, 0, none⟩) (nds.length + 1) vc) := r0
                  have q1' : w4.drew.cell? ⟨rg, k + 1, none⟩ = some (.int .i64 ((T : Int) + 1)) := q1
                  have q2' : w4.drew.cell? ⟨rg, en, none⟩ = some (.int .i64 X) := q2
                  have hcum : Upd (fun _ => False) w4 w4.drew := (Upd.refl _ w4).drew
                  have HWr := Lib.hid hwr
                  have HD4 := Lib.hid hD4
                  have HNb4 := Lib.hid hnb4
                  have p1 : w1.heap.size + 1 ≠ wb := by omega
                  have p2 : rg ≠ wb := by omega
                  clear hin hwr hst hwx hD4 hnb4 hrk hT hX hu4 ce z1 zl HIs
                  go_upto_region 22 with (fail)
                  refine wp_region_held_drew (S := (fun V => V.cell? ⟨w1.heap.size + 1, 0, none⟩ = some (.slice (some ⟨rg, 0, none⟩) (nds.length + 1) vc) ∧ V.cell? ⟨rg, k + 1, none⟩ = some (.int .i64 ((T : Int) + 1)) ∧ V.cell? ⟨rg, en, none⟩ = some (.int .i64 X))) (by kernel_rfl) ⟨r0, q1, q2⟩ (fun hHeld => ?_)
                  simp only [List.size_toArray, List.length_cons, List.length_nil, Nat.reduceAdd]
                  refine take_any (i := 0) (v := ?_) (by rfl) (by kernel_rfl) (by exact (fun _ _ _ h => h)) (by rfl) hHeld ?_ ?_
                  rotate_left
                  · ((intro V hV; obtain ⟨hV0, hV1, hV2⟩ := hV; go_simp) <;> (with_reducible rfl))
                  try simp only [Act.put, List.setIfInBounds_toArray, List.set_cons_zero, List.set_cons_succ]
                  refine take_any (i := 1) (v := ?_) (by rfl) (by kernel_rfl) (by exact (fun _ _ _ h => h)) (by rfl) hHeld ?_ ?_
                  rotate_left
                  · ((intro V hV; obtain ⟨hV0, hV1, hV2⟩ := hV; go_simp) <;> (with_reducible rfl))
                  try simp only [Act.put, List.setIfInBounds_toArray, List.set_cons_zero, List.set_cons_succ]
                  refine take_any (i := 2) (v := ?_) (by rfl) (by kernel_rfl) (by exact (fun _ _ _ h => h)) (by rfl) hHeld ?_ ?_
                  rotate_left
                  · ((intro V hV; obtain ⟨hV0, hV1, hV2⟩ := hV; go_simp) <;> (with_reducible rfl))
                  try simp only [Act.put, List.setIfInBounds_toArray, List.set_cons_zero, List.set_cons_succ]
                  refine take_any (i := 3) (v := ?_) (by rfl) (by kernel_rfl) (by exact (fun _ _ _ h => h)) (by rfl) hHeld ?_ ?_
                  rotate_left
                  · ((intro V hV; obtain ⟨hV0, hV1, hV2⟩ := hV; go_simp) <;> (with_reducible rfl))
                  try simp only [Act.put, List.setIfInBounds_toArray, List.set_cons_zero, List.set_cons_succ]
                  refine take_any (i := 4) (v := ?_) (by rfl) (by kernel_rfl) (by exact (fun _ _ _ h => h)) (by rfl) hHeld ?_ ?_
                  rotate_left
                  · ((intro V hV; obtain ⟨hV0, hV1, hV2⟩ := hV; go_simp) <;> (with_reducible rfl))
                  try simp only [Act.put, List.setIfInBounds_toArray, List.set_cons_zero, List.set_cons_succ]
                  refine take_any (i := 5) (v := ?_) (by rfl) (by kernel_rfl) (by exact (fun _ _ _ h => h)) (by rfl) hHeld ?_ ?_
                  rotate_left
                  · ((intro V hV; obtain ⟨hV0, hV1, hV2⟩ := hV; go_simp) <;> (with_reducible rfl))
                  try simp only [Act.put, List.setIfInBounds_toArray, List.set_cons_zero, List.set_cons_succ]
                  refine take_any (i := 6) (v := ?_) (by rfl) (by kernel_rfl) (by exact (fun _ _ _ h => h)) (by rfl) hHeld ?_ ?_
                  rotate_left
                  · ((intro V hV; obtain ⟨hV0, hV1, hV2⟩ := hV; go_simp) <;> (with_reducible rfl))
                  try simp only [Act.put, List.setIfInBounds_toArray, List.set_cons_zero, List.set_cons_succ]
                  refine take_any (i := 7) (v := ?_) (by rfl) (by kernel_rfl) (by exact (fun _ _ _ h => h)) (by rfl) hHeld ?_ ?_
                  rotate_left
                  · ((intro V hV; obtain ⟨hV0, hV1, hV2⟩ := hV; go_simp) <;> (with_reducible rfl))
                  try simp only [Act.put, List.setIfInBounds_toArray, List.set_cons_zero, List.set_cons_succ]
                  refine take_any (i := 8) (v := ?_) (by rfl) (by kernel_rfl) (by exact (fun _ _ _ h => h)) (by rfl) hHeld ?_ ?_
                  rotate_left
                  · ((intro V hV; obtain ⟨hV0, hV1, hV2⟩ := hV; go_simp) <;> (with_reducible rfl))
                  try simp only [Act.put, List.setIfInBounds_toArray, List.set_cons_zero, List.set_cons_succ]
                  refine take_any (i := 9) (v := ?_) (by rfl) (by kernel_rfl) (by exact (fun _ _ _ h => h)) (by rfl) hHeld ?_ ?_
                  rotate_left
                  · ((intro V hV; obtain ⟨hV0, hV1, hV2⟩ := hV; go_simp) <;> (with_reducible rfl))
                  try simp only [Act.put, List.setIfInBounds_toArray, List.set_cons_zero, List.set_cons_succ]
                  refine take_any (i := 10) (v := ?_) (by rfl) (by kernel_rfl) (by exact (fun _ _ _ h => h)) (by rfl) hHeld ?_ ?_
                  rotate_left
                  · ((intro V hV; obtain ⟨hV0, hV1, hV2⟩ := hV; go_simp) <;> (with_reducible rfl))
                  try simp only [Act.put, List.setIfInBounds_toArray, List.set_cons_zero, List.set_cons_succ]
                  refine take_any (i := 11) (v := ?_) (by rfl) (by kernel_rfl) (by exact (fun _ _ _ h => h)) (by rfl) hHeld ?_ ?_
                  rotate_left
                  · ((intro V hV; obtain ⟨hV0, hV1, hV2⟩ := hV; go_simp) <;> (with_reducible rfl))
                  try simp only [Act.put, List.setIfInBounds_toArray, List.set_cons_zero, List.set_cons_succ]
                  refine next_last (i := 12) (by rfl) (by kernel_rfl) (fun KK hK => ?_)
                  have HCl := Lib.hid (HWr.out _ hcum)
                  go_simp
                  refine (HCl.out).mono ?_
                  rintro e9 w9 ⟨rfl, hh9, hu9⟩
                  have hs0 := keepS hu9 r0' p1
                  have hs1 := keepS hu9 q1' p2
                  have hs2 := keepS hu9 q2' p2
                  have hh := Lib.hid hh9
                  have hus := Lib.hid hu9
                  clear hh9 hu9 HCl
                  go_wp2_with fail
                  refine hK.out _ _ ⟨hs0, hs1, hs2⟩ (fun hHeld => ?_)
                  clear hK KK
                  try simp only [Act.put, List.setIfInBounds_toArray, List.set_cons_zero, List.set_cons_succ]
                  refine wpAnyH_done (by kernel_rfl) ?_ _
                  clear hHeld r0 r0' q1 q1' q2 q2'
                  go_wp2
                  go_roundw
                  case rel =>
                    have hus' : Upd (fun j => j = wb) w4 w9 := (hcum.mono (fun _ _ h => h.elim)).trans hus.out
                    refine ⟨f + 1, by dsimp only; omega, by go_num, ?_, HD4.out.step hus' hh.out (by omega) (by omega) (by omega), HNb4.out.upd hus' (by omega)⟩
                    intro m hm
                    dsimp only at hm
                    rw [List.take_add_one, HEf.out, Option.toList_some] at hm
                    rcases List.mem_append.1 hm with hm | hm
                    · exact HOk.out m hm
                    · rw [List.mem_singleton] at hm
                      omega
                  case measure => simp [intOf]; omega
                · rw [decide_eq_false hin] at his
                  have HIs := Lib.hid his
                  have hno : ¬ Right nds ks (n : Int) := fun hr => hin (by have := hr.edge _ HMem.out e HEes.out; omega)
                  have HNo := Lib.hid hno
                  clear his hxe hef hees hin hno
                  go_wp2_with fail
                  refine (HIs.out).mono ?_
                  rintro e1 w4 ⟨rfl, hu4⟩
                  have HU4 := Lib.hid (HD3.out.upd.trans hu4)
                  clear hu4
                  go_wp2
                  go_ret3
                  exact .no (HU0.out.trans HU4.out) HNo.out
              · have hfe : f = es.length := by omega
                subst hfe
                have z2 := HNb3.out.cell 2 rfl
                have hok := HOk.out
                dsimp only at hok
                rw [List.take_length] at hok
                have HOk2 := Lib.hid hok
                clear hok HOk
                go_wp2
                clear z1 z2
                go_loopw [98] (fun i w3 => Wording w0 w1 nds h wb sb n (w1.heap.size + 1) (.slice va (nds.length + 1) vc) k ⟨kind, es, ws⟩ nb [.int .i64 kind, .slice ea es.length ec, .slice wa ws.length wc] i w3) (fun i _ => ws.length - (intOf i).toNat)
                case atStart => exact ⟨0, Nat.zero_le _, rfl, HD3.out, HNb3.out⟩
                case round =>
                  clear HD3 HNb3
                  obtain ⟨g, hgl, rfl, hD4, hnb4⟩ := hrel
                  dsimp only at hgl
                  have HD4 := Lib.hid hD4
                  have HNb4 := Lib.hid hnb4
                  by_cases hlg : g < ws.length
                  · obtain ⟨x, hxg⟩ : ∃ x, ws[g]? = some x := ⟨_, List.getElem?_eq_getElem hlg⟩
                    obtain ⟨_, _, he', _, hxe⟩ := HW.out.quiet hD4.upd
                    cases he'
                    obtain ⟨bx, ox, rfl, cx, lx⟩ := hxe g x hxg
                    have d1 : decide ((g : Int) < (ws.length : Int)) = true := decide_eq_true (by omega)
                    have d1' : decide (g < ws.length) = true := decide_eq_true hlg
                    have i3 : (0 : Int) ≤ (g : Int) := by omega
                    have i4 : (g : Int) < (ws.length : Int) := by omega
                    have hx64 := H64.out _ HMem.out x (List.mem_of_getElem? hxg)
                    obtain ⟨rg, rc, he'', hg1, hg2, _, _⟩ := own_some hD4.rows (by omega)
                    cases he''
                    have r0 := hD4.rbk.cell 0 rfl
                    have rl := hD4.rbk.lt
                    have z1 := hnb4.cell 1 rfl
                    have zl := hnb4.lt
                    have q1 := own_at hD4.rows (k + 1) (u := .int .i64 (refAt nds (k + 1))) (by rw [ints, List.getElem?_map, refs_at nds (by omega)]; rfl)
                    obtain ⟨T, hT⟩ : ∃ T, T = nwords (nds.take k) := ⟨_, rfl⟩
                    have hrk : refAt nds (k + 1) = (T : Int) + 1 := by rw [refAt, if_neg (by omega), Nat.add_sub_cancel, ← hT]; push_cast; rfl
                    rw [hrk] at q1
                    rw [← hT] at hlw
                    obtain ⟨F, hF⟩ : ∃ F, F = es.length + g := ⟨_, rfl⟩
                    have hwx : (wordsOf nds ⟨kind, es, ws⟩)[F]? = some x := by
                      rw [wordsOf, List.getElem?_append_right (by rw [List.length_map]; dsimp only; omega), List.length_map, hF]
                      dsimp only
                      rw [Nat.add_sub_cancel_left, hxg]
                    have hheap := hD4.heap
                    dsimp only at hheap
                    rw [← hF] at hheap
                    have hwr := fun (W : World) (hu : Upd (fun _ => False) wr W) => write_yes W h wb sb n (filling nds k ⟨kind, es, ws⟩ F) (List.replicate (n - nwords nds) 0) (hheap.quiet hu) T F (partOb nds ⟨kind, es, ws⟩ F) x hx64
                      (by rw [hT]; exact filling_find nds k _ F) (by rw [partOb_len nds _ (by dsimp only; omega)]; dsimp only; omega) (by show kind.toNat ≠ 15; omega) (fun hp => by have hp' : F < es.length := hp; omega)
                    have hst : setWord (filling nds k ⟨kind, es, ws⟩ F) T F x = filling nds k ⟨kind, es, ws⟩ (F + 1) := by rw [hT]; exact filling_step nds k _ hwx
                    simp only [hst] at hwr
                    have s1 : IntKind.i64.wrap ((k : Int) + 1) = (k : Int) + 1 := IntWalk.i64_in _ (by omega)
                    have s2 : IntKind.i64.wrap (T : Int) = (T : Int) := IntWalk.i64_in _ (by omega)
                    have s3 : IntKind.i64.wrap ((es.length : Int) + (g : Int)) = (F : Int) := by rw [IntWalk.i64_in _ (by omega)]; omega
                    have j1 : (0 : Int) ≤ (k : Int) + 1 := by omega
                    have j2 : (k : Int) + 1 < ((nds.length + 1 : Nat) : Int) := by omega
                    have r0' : wr.drew.cell? ⟨w1.heap.size + 1, 0, none⟩ = some (.slice (some ⟨rg, 0, none⟩) (nds.length + 1) vc) := r0
                    have q1' : wr.drew.cell? ⟨rg, k + 1, none⟩ = some (.int .i64 ((T : Int) + 1)) := q1
                    have z1' : wr.drew.cell? ⟨nb, 1, none⟩ = some (.slice ea es.length ec) := z1
                    have hcum : Upd (fun _ => False) wr wr.drew := (Upd.refl _ wr).drew
                    have HWr := Lib.hid hwr
                    have HF := Lib.hid hF
                    have p1 : w1.heap.size + 1 ≠ wb := by omega
                    have p2 : rg ≠ wb := by omega
                    have p3 : nb ≠ wb := by omega
                    clear hwr hst hwx hheap hD4 hnb4 hrk hT hF hxg hxe
                    go_upto_region 27 with (fail)
                    refine wp_region_held_drew (S := (fun V => V.cell? ⟨w1.heap.size + 1, 0, none⟩ = some (.slice (some ⟨rg, 0, none⟩) (nds.length + 1) vc) ∧ V.cell? ⟨rg, k + 1, none⟩ = some (.int .i64 ((T : Int) + 1)) ∧ V.cell? ⟨nb, 1, none⟩ = some (.slice ea es.length ec))) (by kernel_rfl) ⟨r0, q1, z1⟩ (fun hHeld => ?_)
                    simp only [List.size_toArray, List.length_cons, List.length_nil, Nat.reduceAdd]
                    refine take_any (i := 0) (v := ?_) (by rfl) (by kernel_rfl) (by exact (fun _ _ _ h => h)) (by rfl) hHeld ?_ ?_
                    rotate_left
                    · ((intro V hV; obtain ⟨hV0, hV1, hV2⟩ := hV; go_simp) <;> (with_reducible rfl))
                    try simp only [Act.put, List.setIfInBounds_toArray, List.set_cons_zero, List.set_cons_succ]
                    refine take_any (i := 1) (v := ?_) (by rfl) (by kernel_rfl) (by exact (fun _ _ _ h => h)) (by rfl) hHeld ?_ ?_
                    rotate_left
                    · ((intro V hV; obtain ⟨hV0, hV1, hV2⟩ := hV; go_simp) <;> (with_reducible rfl))
                    try simp only [Act.put, List.setIfInBounds_toArray, List.set_cons_zero, List.set_cons_succ]
                    refine take_any (i := 2) (v := ?_) (by rfl) (by kernel_rfl) (by exact (fun _ _ _ h => h)) (by rfl) hHeld ?_ ?_
                    rotate_left
                    · ((intro V hV; obtain ⟨hV0, hV1, hV2⟩ := hV; go_simp) <;> (with_reducible rfl))
                    try simp only [Act.put, List.setIfInBounds_toArray, List.set_cons_zero, List.set_cons_succ]
                    refine take_any (i := 3) (v := ?_) (by rfl) (by kernel_rfl) (by exact (fun _ _ _ h => h)) (by rfl) hHeld ?_ ?_
                    rotate_left
                    · ((intro V hV; obtain ⟨hV0, hV1, hV2⟩ := hV; go_simp) <;> (with_reducible rfl))
                    try simp only [Act.put, List.setIfInBounds_toArray, List.set_cons_zero, List.set_cons_succ]
                    refine take_any (i := 4) (v := ?_) (by rfl) (by kernel_rfl) (by exact (fun _ _ _ h => h)) (by rfl) hHeld ?_ ?_
                    rotate_left
                    · ((intro V hV; obtain ⟨hV0, hV1, hV2⟩ := hV; go_simp) <;> (with_reducible rfl))
                    try simp only [Act.put, List.setIfInBounds_toArray, List.set_cons_zero, List.set_cons_succ]
                    refine take_any (i := 5) (v := ?_) (by rfl) (by kernel_rfl) (by exact (fun _ _ _ h => h)) (by rfl) hHeld ?_ ?_
                    rotate_left
                    · ((intro V hV; obtain ⟨hV0, hV1, hV2⟩ := hV; go_simp) <;> (with_reducible rfl))
                    try simp only [Act.put, List.setIfInBounds_toArray, List.set_cons_zero, List.set_cons_succ]
                    refine take_any (i := 6) (v := ?_) (by rfl) (by kernel_rfl) (by exact (fun _ _ _ h => h)) (by rfl) hHeld ?_ ?_
                    rotate_left
                    · ((intro V hV; obtain ⟨hV0, hV1, hV2⟩ := hV; go_simp) <;> (with_reducible rfl))
                    try simp only [Act.put, List.setIfInBounds_toArray, List.set_cons_zero, List.set_cons_succ]
                    refine take_any (i := 7) (v := ?_) (by rfl) (by kernel_rfl) (by exact (fun _ _ _ h => h)) (by rfl) hHeld ?_ ?_
                    rotate_left
                    · ((intro V hV; obtain ⟨hV0, hV1, hV2⟩ := hV; go_simp) <;> (with_reducible rfl))
                    try simp only [Act.put, List.setIfInBounds_toArray, List.set_cons_zero, List.set_cons_succ]
                    refine take_any (i := 8) (v := ?_) (by rfl) (by kernel_rfl) (by exact (fun _ _ _ h => h)) (by rfl) hHeld ?_ ?_
                    rotate_left
                    · ((intro V hV; obtain ⟨hV0, hV1, hV2⟩ := hV; go_simp) <;> (with_reducible rfl))
                    try simp only [Act.put, List.setIfInBounds_toArray, List.set_cons_zero, List.set_cons_succ]
                    refine take_any (i := 9) (v := ?_) (by rfl) (by kernel_rfl) (by exact (fun _ _ _ h => h)) (by rfl) hHeld ?_ ?_
                    rotate_left
                    · ((intro V hV; obtain ⟨hV0, hV1, hV2⟩ := hV; go_simp) <;> (with_reducible rfl))
                    try simp only [Act.put, List.setIfInBounds_toArray, List.set_cons_zero, List.set_cons_succ]
                    refine take_any (i := 10) (v := ?_) (by rfl) (by kernel_rfl) (by exact (fun _ _ _ h => h)) (by rfl) hHeld ?_ ?_
                    rotate_left
                    · ((intro V hV; obtain ⟨hV0, hV1, hV2⟩ := hV; go_simp) <;> (with_reducible rfl))
                    try simp only [Act.put, List.setIfInBounds_toArray, List.set_cons_zero, List.set_cons_succ]
                    refine take_any (i := 11) (v := ?_) (by rfl) (by kernel_rfl) (by exact (fun _ _ _ h => h)) (by rfl) hHeld ?_ ?_
                    rotate_left
                    · ((intro V hV; obtain ⟨hV0, hV1, hV2⟩ := hV; go_simp) <;> (with_reducible rfl))
                    try simp only [Act.put, List.setIfInBounds_toArray, List.set_cons_zero, List.set_cons_succ]
                    refine take_any (i := 12) (v := ?_) (by rfl) (by kernel_rfl) (by exact (fun _ _ _ h => h)) (by rfl) hHeld ?_ ?_
                    rotate_left
                    · ((intro V hV; obtain ⟨hV0, hV1, hV2⟩ := hV; go_simp) <;> (with_reducible rfl))
                    try simp only [Act.put, List.setIfInBounds_toArray, List.set_cons_zero, List.set_cons_succ]
                    refine next_last (i := 13) (by rfl) (by kernel_rfl) (fun KK hK => ?_)
                    have HCl := Lib.hid (HWr.out _ hcum)
                    go_simp
                    refine (HCl.out).mono ?_
                    rintro e9 w9 ⟨rfl, hh9, hu9⟩
                    have hs0 := keepS hu9 r0' p1
                    have hs1 := keepS hu9 q1' p2
                    have hs2 := keepS hu9 z1' p3
                    have hh := Lib.hid hh9
                    have hus := Lib.hid hu9
                    clear hh9 hu9 HCl
                    go_wp2_with fail
                    refine hK.out _ _ ⟨hs0, hs1, hs2⟩ (fun hHeld => ?_)
                    clear hK KK
                    try simp only [Act.put, List.setIfInBounds_toArray, List.set_cons_zero, List.set_cons_succ]
                    refine wpAnyH_done (by kernel_rfl) ?_ _
                    clear hHeld r0 r0' q1 q1' z1 z1'
                    go_wp2
                    go_roundw
                    case rel =>
                      have hus' : Upd (fun j => j = wb) wr w9 := (hcum.mono (fun _ _ h => h.elim)).trans hus.out
                      refine ⟨g + 1, by dsimp only; omega, by go_num, HD4.out.step hus' ?_ (by omega) (by omega) (by omega), HNb4.out.upd hus' (by omega)⟩
                      have h1 := hh.out
                      rw [HF.out] at h1
                      exact h1
                    case measure => simp [intOf]; omega
                  · have hge : g = ws.length := by omega
                    subst hge
                    clear hD4 hnb4
                    go_wp2
                    go_roundw
                    case rel =>
                      have hD5 := HD4.out
                      dsimp only at hD5
                      rw [filling_all HNd.out] at hD5
                      refine ⟨k + 1, by omega, by go_num, ?_, hD5⟩
                      intro m hm
                      rw [List.take_add_one, HNd.out, Option.toList_some] at hm
                      rcases List.mem_append.1 hm with hm | hm
                      · exact HEdge.out m hm
                      · rw [List.mem_singleton] at hm
                        subst hm
                        exact HOk2.out
                    case measure => simp [intOf]; omega
          · have hke : k = nds.length := by omega
            subst hke
            have hB := HB0.out.upd HD.out.upd (fun h => h)
            have b0 := hB.cell 0 rfl
            have b1 := hB.cell 1 rfl
            have bl := hB.lt
            have hedge := HEdge.out
            rw [List.take_length] at hedge
            have hD := HD.out
            rw [filled_all] at hD
            have HD5 := Lib.hid hD
            have HEdge2 := Lib.hid hedge
            clear hB hedge hD HD HEdge HD0
            obtain ⟨w4, hw4⟩ : ∃ w4 : World, w4 = wr := ⟨_, rfl⟩
            subst hw4
            go_wp2
            go_loopw [21, 122] (fun s i wr => ∃ j : Nat, j ≤ ks.length ∧ i = .int .i64 (j : Int) ∧ wr.ownsRow w4.heap.size 3 1 s j (ints ((ks.take j).map (fun e => refAt nds e.toNat))) ∧ (∀ e ∈ ks.take j, 0 ≤ e ∧ e ≤ nds.length) ∧ Upd (fun _ => False) w4 wr) (fun _ i _ => ks.length - (intOf i).toNat)
            case atStart => exact ⟨0, Nat.zero_le _, rfl, World.ownsRow_nil _ _ _ _, (fun e he => by cases he), Upd.refl _ _⟩
            case round =>
              obtain ⟨j, hj, rfl, hO, hok, hU⟩ := hrel
              obtain ⟨sa, sc, rfl⟩ := own_form hO
              have HO := Lib.hid hO
              have HOk := Lib.hid hok
              have HU := Lib.hid hU
              have hD6 := HD5.out.quiet hU
              have hus := hU.size
              clear hO hok hU b0 b1 bl
              by_cases hlj : j < ks.length
              · obtain ⟨e, hej⟩ : ∃ e, ks[j]? = some e := ⟨_, List.getElem?_eq_getElem hlj⟩
                obtain ⟨_, _, he', _, hxe⟩ := HK.out.quiet hD6.upd
                cases he'
                obtain ⟨be, oe, rfl, ce, le⟩ := hxe j e hej
                have d1 : decide ((j : Int) < (ks.length : Int)) = true := decide_eq_true (by omega)
                have d1' : decide (j < ks.length) = true := decide_eq_true hlj
                have i3 : (0 : Int) ≤ (j : Int) := by omega
                have i4 : (j : Int) < (ks.length : Int) := by omega
                have his := is_num wr (w1.heap.size + 1) va (nds.length + 1) vc hD6.rbk e
                have hees := List.mem_of_getElem? hej
                have HEj := Lib.hid hej
                have HEes := Lib.hid hees
                have HD6 := Lib.hid hD6
                by_cases hin : 0 ≤ e ∧ e < ((nds.length + 1 : Nat) : Int)
                · rw [decide_eq_true hin] at his
                  have HIs := Lib.hid his
                  clear his hxe hej hees hD6
                  go_wp2_with fail
                  refine (HIs.out).mono ?_
                  rintro e1 w5 ⟨rfl, hu5⟩
                  obtain ⟨en, rfl⟩ : ∃ en : Nat, e = (en : Int) := ⟨e.toNat, by omega⟩
                  have henl : en ≤ nds.length := by omega
                  have hD7 := HD6.out.quiet hu5
                  have hO5 := own_upd HO.out hu5 (fun _ _ h => h)
                  obtain ⟨rg, rc, he'', hg1, hg2, _, _⟩ := own_some hD7.rows (by omega)
                  cases he''
                  have r0 := hD7.rbk.cell 0 rfl
                  have rl := hD7.rbk.lt
                  obtain ⟨X, hX⟩ : ∃ X, X = refAt nds en := ⟨_, rfl⟩
                  have q2 := own_at hD7.rows en (u := .int .i64 X) (by rw [ints, List.getElem?_map, refs_at nds henl, hX]; rfl)
                  have j3 : (0 : Int) ≤ (en : Int) := by omega
                  have j4 : (en : Int) < ((nds.length + 1 : Nat) : Int) := by omega
                  have j5 : (en : Int) < (nds.length : Int) + 1 := by omega
                  have j6 : (en : Int) ≤ (nds.length : Int) := by omega
                  have HU5 := Lib.hid (HU.out.trans hu5)
                  have HO5 := Lib.hid hO5
                  have HXe := Lib.hid hX
                  have hus5 := hu5.size
                  clear hin hD7 hO5 hX hu5 ce HIs HD6
                  go_wp2_with (first | (at_builtin; refine wpList_append_lies _ rfl _ _ 22 rfl w4.heap.size 3 i0 _ 1 8 Try.underlying22 hi0 hz0 hz1 hz2 rfl (by decide) _ _ _ rfl (HO5.out.alloc _) ⟨w5.heap.size, 0, none⟩ 1 1 [.int .i64 X] rfl rfl ?c1 ?c2 (by decide) ?c3 ?c4 ?c5 _ rfl ?_))
                  case c1 => exact cells_new _ _ _
                  case c2 => simp [Value.oneCell']
                  case c3 => simp only [maxLen]; omega
                  case c4 => omega
                  case c5 => simp only [World.size_alloc]; omega
                  intro g cap2 w6 hV6 hg6 hat6 hlt6
                  have u6 : Upd (fun i => (Value.slice sa j sc).ownBlock = some i) w5 w6 := ((Upd.refl _ w5).alloc (.cells #[.int .i64 X] 3)).grown hg6 (fun k hk _ => hk)
                  have hU6 := HU5.out.next u6 (fun i hi h => by have := (HO5.out.lt i h).1; omega)
                  have HV6 := Lib.hid hV6
                  have HU6 := Lib.hid hU6
                  clear hV6 hg6 hat6 hlt6 u6 hU6 r0 q2
                  go_wp2
                  go_roundw
                  case rel =>
                    refine ⟨j + 1, by omega, by go_num, ?_, ?_, HU6.out⟩
                    · have h1 := HV6.out
                      rw [List.take_add_one, HEj.out, Option.toList_some, List.map_append]
                      simp only [List.map_cons, List.map_nil, Int.toNat_natCast, ← HXe.out]
                      simpa [ints] using h1
                    · intro m hm
                      rw [List.take_add_one, HEj.out, Option.toList_some] at hm
                      rcases List.mem_append.1 hm with hm | hm
                      · exact HOk.out m hm
                      · rw [List.mem_singleton] at hm
                        omega
                  case measure => simp [intOf]; omega
                · rw [decide_eq_false hin] at his
                  have HIs := Lib.hid his
                  have hno : ¬ Right nds ks (n : Int) := fun hr => hin (by have := hr.root e HEes.out; omega)
                  have HNo := Lib.hid hno
                  clear his hxe hej hees hin hno hD6
                  go_wp2_with fail
                  refine (HIs.out).mono ?_
                  rintro e1 w5 ⟨rfl, hu5⟩
                  have HU5 := Lib.hid (HD6.out.upd.trans hu5)
                  clear hu5
                  go_wp2
                  go_ret3
                  exact .no (HU0.out.trans HU5.out) HNo.out
              · have hje : j = ks.length := by omega
                subst hje
                have hok := HOk.out
                have hO := HO.out
                rw [List.take_length] at hok hO
                have hright : Right nds ks (n : Int) := ⟨by omega, by omega, hgood, by omega, HEdge2.out, hok⟩
                have hfin : HeapEnd w nds ks (n : Int) (.returned (.tuple #[.pointer (some ⟨h, 0, none⟩), .slice sa ks.length sc, .int .i64 0])) wr := by
                  refine ⟨HU0.out.trans hD6.upd, fun _ => ⟨h, wb, sb, _, rfl, ?_, own_base hO (by have := HU0.out.size; have := HD5.out.upd.size; omega), by have := HU0.out.size; omega, by have := HU0.out.size; omega, by have := HU0.out.size; omega⟩, fun hno => absurd hright hno⟩
                  rw [Int.toNat_natCast]
                  exact hD6.heap
                have HFin := Lib.hid hfin
                clear hok hO hright hfin hD6
                go_wp2
                go_ret3
                exact HFin.out
end Go.Proofs.Ytlphlaenecidiaa.Graph
