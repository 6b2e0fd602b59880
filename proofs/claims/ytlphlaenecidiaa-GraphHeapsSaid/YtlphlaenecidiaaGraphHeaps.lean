/- The law GraphHeaps. -/
import Derived.Test.YtlphlaenecidiaaHeapsP
import Derived.Test.YtlphlaenecidiaaCheck2
import Derived.Test.YtlphlaenecidiaaFormHeap
import Derived.Test.YtlphlaenecidiaaSame
import Derived.Test.YtlphlaenecidiaaIntsQ
import Derived.BigQuiet
import Derived.Deep.CutRange
set_option linter.unusedSimpArgs false
namespace Go.Proofs.Ytlphlaenecidiaa.Heaps
open Go.RowKit Go.Proofs.Ytlphlaenecidiaa.Mem Go.Proofs.Ytlphlaenecidiaa.Obj Go.Proofs.Ytlphlaenecidiaa.Ref Go.Proofs.Ytlphlaenecidiaa.Heap Go.Proofs.Ytlphlaenecidiaa.Graph

/-- Great ones. -/
def tooMany (a b c d : Nat) : Prop := 12 < a ∨ 12 < b ∨ 12 < c ∨ 12 < d
theorem four_ways (a b c d : Nat) (h : tooMany a b c d) : ∃ x y z : Bool, decide (12 < a) = x ∧ (x = false → decide (12 < b) = y) ∧ (x = false → y = false → decide (12 < c) = z) ∧ (x = false → y = false → z = false → decide (12 < d) = true) := by
  refine ⟨_, _, _, rfl, fun _ => rfl, fun _ _ => rfl, fun h1 h2 h3 => ?_⟩
  have h1 := of_decide_eq_false h1
  have h2 := of_decide_eq_false h2
  have h3 := of_decide_eq_false h3
  exact decide_eq_true (by unfold tooMany at h; omega)
theorem dInt {a : Nat} {x : Bool} (h : decide (12 < a) = x) : decide ((12 : Int) < (a : Int)) = x := by
  rw [← h]; exact decide_eq_decide.2 (by omega)

set_option maxRecDepth 20000 in
set_option maxHeartbeats 4000000 in
theorem heaps_great (w : World) (aa na ab nb : Option Addr) (ac nc bc mc : Nat) (k n r m : Nat) (size : Int) (h : tooMany n m k r) :
    Calls Try.prog 8 #[.agg #[.slice aa k ac, .slice na n nc], .agg #[.slice ab r bc, .slice nb m mc], .int .i64 size] w fun e w' => e = .returned (.bool true) ∧ Upd (fun _ => False) w w' := by
  have hu0 := ((Upd.refl (fun _ => False) w).alloc (.cells #[.slice aa k ac, .slice na n nc] 35)).alloc (.cells #[.slice ab r bc, .slice nb m mc] 35)
  have HB := Lib.hid ((Blk.made w [.slice aa k ac, .slice na n nc] 35).alloc (.cells #[.slice ab r bc, .slice nb m mc] 35))
  have HC := Lib.hid (Blk.made' w (.cells #[.slice aa k ac, .slice na n nc] 35) [.slice ab r bc, .slice nb m mc] 35)
  have HU := Lib.hid hu0
  clear hu0
  obtain ⟨x, y, z, h1, h2, h3, h4⟩ := four_ways n m k r h
  clear h
  go_enter Try.func8, Try.ntmps8
  go_wp2_with fail
  refine (Raw.awake16 _).mono ?_
  rintro e w1 ⟨rfl, hu1⟩
  have hB1 := HB.out.upd hu1 (fun h => h)
  have hC1 := HC.out.upd hu1 (fun h => h)
  have b0 := hB1.cell 0 rfl
  have b1 := hB1.cell 1 rfl
  have bl := hB1.lt
  have c0 := hC1.cell 0 rfl
  have c1 := hC1.cell 1 rfl
  have cl := hC1.lt
  have HU1 := Lib.hid (HU.out.trans hu1)
  clear hB1 hC1 hu1
  have i1 := dInt h1
  cases x
  · have h2 := h2 rfl
    have i2 := dInt h2
    cases y
    · have h3 := h3 rfl rfl
      have i3 := dInt h3
      cases z
      · have h4 := h4 rfl rfl rfl
        have i4 := dInt h4
        go_wp2_with fail
        refine (Raw.awake16 _).mono ?_
        rintro e w3 ⟨rfl, hu3⟩
        have HU3 := Lib.hid (HU1.out.trans hu3)
        clear hu3
        go_wp2
        go_ret
        exact ⟨rfl, HU3.out⟩
      · go_wp2_with fail
        refine (Raw.awake16 _).mono ?_
        rintro e w3 ⟨rfl, hu3⟩
        have HU3 := Lib.hid (HU1.out.trans hu3)
        clear hu3
        go_wp2
        go_ret
        exact ⟨rfl, HU3.out⟩
    · go_wp2_with fail
      refine (Raw.awake16 _).mono ?_
      rintro e w3 ⟨rfl, hu3⟩
      have HU3 := Lib.hid (HU1.out.trans hu3)
      clear hu3
      go_wp2
      go_ret
      exact ⟨rfl, HU3.out⟩
  · go_wp2_with fail
    refine (Raw.awake16 _).mono ?_
    rintro e w3 ⟨rfl, hu3⟩
    have HU3 := Lib.hid (HU1.out.trans hu3)
    clear hu3
    go_wp2
    go_ret
    exact ⟨rfl, HU3.out⟩

theorem same_is {w2 : World} {a b : Value} {p : Prop} [Decidable p] {d : Bool} (h : ∀ V, Upd (fun _ => False) w2 V → Calls Try.prog 20 #[a, b] V fun e w' => e = .returned (.bool (decide p)) ∧ Upd (fun _ => False) V w') (hd : decide p = d) :
    ∀ V, Upd (fun _ => False) w2 V → Calls Try.prog 20 #[a, b] V fun e w' => e = .returned (.bool d) ∧ Upd (fun _ => False) V w' := fun V hV => (h V hV).mono (fun _ _ h => ⟨h.1.trans (by rw [hd]), h.2⟩)
theorem Small.mild {l : List Nd} (h : l.length ≤ 12) (hs : ∀ n ∈ l, Small n) : MildW l := ⟨by omega, fun n hn => by obtain ⟨l1, l2, _⟩ := hs n hn; simp only [most] at l1 l2; omega⟩
theorem forms_same {w : World} {va vn vb vm : Value} {ks rs : List Int} {nds nbs : List Nd} (hk : IntsAt w va ks) (hn : NodesAt w vn nds) (hr : IntsAt w vb rs) (hm : NodesAt w vm nbs) (hsn : ∀ n ∈ nds, Small n) (hsm : ∀ n ∈ nbs, Small n)
    (h1 : nds.length ≤ 12) (h2 : nbs.length ≤ 12) (h3 : ks.length ≤ 12) (h4 : rs.length ≤ 12) (V : World) (hV : Upd (fun _ => False) w V) :
    Calls Try.prog 20 #[.agg #[va, vn], .agg #[vb, vm]] V fun e w' => e = .returned (.bool (decide (ks = rs ∧ nds = nbs))) ∧ Upd (fun _ => False) V w' :=
  sameForm_wide V va vn vb vm ks rs nds nbs (hk.quiet hV) (hn.quiet hV) (hr.quiet hV) (hm.quiet hV) (by omega) (by omega) (Small.mild h1 hsn) (Small.mild h2 hsm)
theorem form_words {w : World} {va vn : Value} {ks : List Int} {nds : List Nd} (hk : IntsAt w va ks) (hn : NodesAt w vn nds) (hsn : ∀ n ∈ nds, Small n) (h1 : nds.length ≤ 12) {NW : Nat} (hw : NW = nwords nds) (V : World) (hV : Upd (fun _ => False) w V) :
    Calls Try.prog 18 #[.agg #[va, vn]] V fun e w' => e = .returned (.int .i64 (NW : Int)) ∧ Upd (fun _ => False) V w' := by
  obtain ⟨aa, ac, rfl⟩ := hk.form
  have hb := nwords_bound nds hsn
  have : nds.length * (1 + 2 * most) ≤ 12 * (1 + 2 * most) := Nat.mul_le_mul_right _ h1
  subst hw
  simp only [most] at this hb
  exact words_wide V _ vn _ _ _ rfl nds (hn.quiet hV) (by omega) (by omega)
/-- While nodes are looked at. -/
def Looking (w1 : World) (nds : List Nd) (size : Int) (s r i : Value) (wr : World) : Prop :=
  ∃ (k : Nat) (c : Bool), k ≤ nds.length ∧ i = .int .i64 (k : Int) ∧ s = .int .i64 (nwords (nds.take k) : Int) ∧ r = .bool c ∧ (c = true ↔ OkNds nds size k) ∧ Upd (fun _ => False) w1 wr

set_option maxRecDepth 20000 in
set_option maxHeartbeats 20000000 in
theorem heaps_few (w : World) (va vn vb vm : Value) (ks rs : List Int) (nds nbs : List Nd) (size : Int) (hs64 : -9223372036854775808 ≤ size ∧ size ≤ 9223372036854775807) (hk : IntsAt w va ks) (hn : NodesAt w vn nds) (hr : IntsAt w vb rs) (hm : NodesAt w vm nbs) (hsn : ∀ n ∈ nds, Small n) (hsm : ∀ n ∈ nbs, Small n)
    (h1 : nds.length ≤ 12) (h2 : nbs.length ≤ 12) (h3 : ks.length ≤ 12) (h4 : rs.length ≤ 12) :
    Calls Try.prog 8 #[.agg #[va, vn], .agg #[vb, vm], .int .i64 size] w fun e w' => e = .returned (.bool true) ∧ Upd (fun _ => False) w w' := by
  obtain ⟨aa, ac, rfl⟩ := hk.form
  obtain ⟨na, nc, rfl⟩ := hn.form
  obtain ⟨ab, bc, rfl⟩ := hr.form
  obtain ⟨nb, mc, rfl⟩ := hm.form
  have hu0 := ((Upd.refl (fun _ => False) w).alloc (.cells #[.slice aa ks.length ac, .slice na nds.length nc] 35)).alloc (.cells #[.slice ab rs.length bc, .slice nb nbs.length mc] 35)
  have HB := Lib.hid ((Blk.made w [.slice aa ks.length ac, .slice na nds.length nc] 35).alloc (.cells #[.slice ab rs.length bc, .slice nb nbs.length mc] 35))
  have HC := Lib.hid (Blk.made' w (.cells #[.slice aa ks.length ac, .slice na nds.length nc] 35) [.slice ab rs.length bc, .slice nb nbs.length mc] 35)
  have HU := Lib.hid hu0
  have HK := Lib.hid hk
  have HN := Lib.hid hn
  have HR := Lib.hid hr
  have HM := Lib.hid hm
  have HSn := Lib.hid hsn
  have HSm := Lib.hid hsm
  clear hu0 hk hn hr hm hsn hsm
  have e1 : decide (12 < nds.length) = false := decide_eq_false (by omega)
  have e2 : decide (12 < nbs.length) = false := decide_eq_false (by omega)
  have e3 : decide (12 < ks.length) = false := decide_eq_false (by omega)
  have e4 : decide (12 < rs.length) = false := decide_eq_false (by omega)
  have i1 := dInt e1
  have i2 := dInt e2
  have i3 := dInt e3
  have i4 := dInt e4
  go_enter Try.func8, Try.ntmps8
  go_wp2_with fail
  refine (Raw.awake16 _).mono ?_
  rintro e w1 ⟨rfl, hu1⟩
  have hB1 := HB.out.upd hu1 (fun h => h)
  have hC1 := HC.out.upd hu1 (fun h => h)
  have b0 := hB1.cell 0 rfl
  have b1 := hB1.cell 1 rfl
  have bl := hB1.lt
  have c0 := hC1.cell 0 rfl
  have c1 := hC1.cell 1 rfl
  have cl := hC1.lt
  have HU1 := Lib.hid (HU.out.trans hu1)
  have HB1 := Lib.hid hB1
  have HC1 := Lib.hid hC1
  clear hB1 hC1 hu1 HB HC HU
  go_upto_region 3 with fail
  go_cut [7, 8] from 19 (fun s r wr => ∃ c : Bool, s = .int .i64 0 ∧ r = .bool c ∧ (c = true ↔ 1 ≤ size ∧ size ≤ 65536) ∧ wr = w1)
  case first =>
    by_cases q1 : 1 ≤ size
    · have f1 : decide (1 ≤ size) = true := decide_eq_true q1
      go_wp2_with fail
      go_meet
      case rel => exact ⟨_, rfl, rfl, by rw [decide_eq_true_iff]; exact ⟨fun h => ⟨q1, h⟩, fun h => h.2⟩, rfl⟩
    · have f1 : decide (1 ≤ size) = false := decide_eq_false q1
      go_wp2_with fail
      go_meet
      case rel => exact ⟨_, rfl, rfl, ⟨fun h => (by cases h), fun h => (by omega)⟩, rfl⟩
  case rest =>
    obtain ⟨c, rfl, rfl, hc, e⟩ := hcut
    have e' := e.symm
    subst e'
    have HCc := Lib.hid hc
    clear hc i1 i2 i3 i4 e1 e2 e3 e4
    go_wp2_with fail
    go_loopw [7, 8, 56] (fun s r i wr => Looking w1 nds size s r i wr) (fun _ _ i _ => nds.length - (intOf i).toNat)
    case atStart => exact ⟨0, c, Nat.zero_le _, rfl, rfl, rfl, HCc.out.trans ⟨fun h => ⟨h, fun m hm => by cases hm⟩, fun h => h.1⟩, Upd.refl _ _⟩
    case round =>
      obtain ⟨k, c, hk, rfl, rfl, rfl, hok, hU⟩ := hrel
      have HOk := Lib.hid hok
      have HU := Lib.hid hU
      clear hok HCc
      by_cases hlk : k < nds.length
      · as_aux_lemma =>
          obtain ⟨⟨kind, es, ws⟩, hnd⟩ : ∃ nd, nds[k]? = some nd := ⟨_, List.getElem?_eq_getElem hlk⟩
          obtain ⟨a', c', e', hx⟩ := HN.out.quiet (HU1.out.trans hU)
          cases e'
          obtain ⟨b, o, ve, vw, rfl, hbl, n0, n1, n2, he, hw⟩ := hx k _ hnd
          have hmem := List.mem_of_getElem? hnd
          obtain ⟨l1, l2, _⟩ := HSn.out _ hmem
          have htk := nwords_take hnd
          have hle := nwords_bound (nds.take k) (fun m hm => HSn.out m (List.mem_of_mem_take hm))
          dsimp only [most] at n0 he hw l1 l2 htk hle
          obtain ⟨ea, ec, rfl⟩ := he.form
          obtain ⟨wa, wc', rfl⟩ := hw.form
          have d1 : decide ((k : Int) < (nds.length : Int)) = true := decide_eq_true (by omega)
          have d1' : decide (k < nds.length) = true := decide_eq_true hlk
          have j1 : (0 : Int) ≤ (k : Int) := by omega
          have j2 : (k : Int) < (nds.length : Int) := by omega
          have hal := (Upd.refl (fun _ => False) wr).alloc (.cells #[.int .i64 kind, .slice ea es.length ec, .slice wa ws.length wc'] 66)
          have hnb := Blk.made wr [.int .i64 kind, .slice ea es.length ec, .slice wa ws.length wc'] 66
          have htl : (nds.take k).length ≤ 12 := by rw [List.length_take]; omega
          obtain ⟨T, hT⟩ : ∃ T, T = nwords (nds.take k) := ⟨_, rfl⟩
          rw [← hT] at htk hle ⊢
          have hTn : T ≤ 422212465066000 := by
            have : (nds.take k).length * (1 + 2 * 17592186044416) ≤ 12 * (1 + 2 * 17592186044416) := Nat.mul_le_mul_right _ htl
            omega
          obtain ⟨el, hel⟩ : ∃ el, el = es.length + ws.length := ⟨_, rfl⟩
          have hse : IntKind.i64.wrap ((es.length : Int) + (ws.length : Int)) = (el : Int) := by rw [IntWalk.i64_in _ (by omega)]; omega
          have hs1 : IntKind.i64.wrap (1 + (es.length : Int)) = 1 + (es.length : Int) := IntWalk.i64_in _ (by omega)
          have hs2 : IntKind.i64.wrap (1 + (es.length : Int) + (ws.length : Int)) = 1 + (es.length : Int) + (ws.length : Int) := IntWalk.i64_in _ (by omega)
          obtain ⟨T', hT'⟩ : ∃ T', T' = nwords (nds.take (k + 1)) := ⟨_, rfl⟩
          have hs3 : IntKind.i64.wrap ((T : Int) + (1 + (es.length : Int) + (ws.length : Int))) = (T' : Int) := by rw [IntWalk.i64_in _ (by omega)]; omega
          have HNb := Lib.hid hnb
          have HAl := Lib.hid hal
          have HNd := Lib.hid hnd
          have HTk := Lib.hid hT'
          have HE := Lib.hid he
          have HEl := Lib.hid hel
          clear hal hnb he hw htk hmem hT hle htl hel hU hT'
          clear hx
          clear hnd
          go_upto_region 8 with fail
          have hws : (wr.alloc (.cells #[.int .i64 kind, .slice ea es.length ec, .slice wa ws.length wc'] 66)).heap.size = wr.heap.size + 1 := World.size_alloc _ _
          generalize wr.alloc (.cells #[.int .i64 kind, .slice ea es.length ec, .slice wa ws.length wc'] 66) = wn at *
          have z0 := HNb.out.cell 0 rfl
          have z1 := HNb.out.cell 1 rfl
          have z2 := HNb.out.cell 2 rfl
          have zl := HNb.out.lt
          clear n0 n1 n2
          obtain ⟨Pn, hPn⟩ : ∃ Pn : Prop, Pn = (OkNds nds size k ∧ 0 ≤ kind ∧ kind ≤ 14 ∧ el ≤ 4095) := ⟨_, rfl⟩
          have HPn := Lib.hid hPn
          go_cut [8, 56] from 56 to 111 (fun r i wx => ∃ c' : Bool, r = .bool c' ∧ (c' = true ↔ Pn) ∧ i = .int .i64 (k : Int) ∧ wx = wn)
          case first =>
            subst hPn
            cases c
            · go_wp2_with fail
              go_meet
              case rel => exact ⟨_, rfl, ⟨fun h => (by cases h), fun h => absurd (HOk.out.2 h.1) (by simp)⟩, rfl, rfl⟩
            · by_cases q1 : 0 ≤ kind
              · have f1 : decide (0 ≤ kind) = true := decide_eq_true q1
                by_cases q2 : kind ≤ 14
                · have f2 : decide (kind ≤ 14) = true := decide_eq_true q2
                  obtain ⟨x3, f3⟩ : ∃ x3, decide ((el : Int) ≤ 4095) = x3 := ⟨_, rfl⟩
                  have f3' : decide (el ≤ 4095) = x3 := by rw [← f3]; exact decide_eq_decide.2 (by omega)
                  have F3 := Lib.hid f3'
                  go_wp2_with fail
                  go_meet
                  case rel => exact ⟨_, rfl, by rw [← F3.out, decide_eq_true_iff]; exact ⟨fun h => ⟨HOk.out.1 (by simp), q1, q2, h⟩, fun h => h.2.2.2⟩, rfl, rfl⟩
                · have f2 : decide (kind ≤ 14) = false := decide_eq_false q2
                  go_wp2_with fail
                  go_meet
                  case rel => exact ⟨_, rfl, ⟨fun h => (by cases h), fun h => (by omega)⟩, rfl, rfl⟩
              · have f1 : decide (0 ≤ kind) = false := decide_eq_false q1
                go_wp2_with fail
                go_meet
                case rel => exact ⟨_, rfl, ⟨fun h => (by cases h), fun h => (by omega)⟩, rfl, rfl⟩
          case rest =>
            obtain ⟨c', rfl, hc', rfl, e⟩ := hcut
            have e' := e.symm
            subst e'
            clear hPn
            have HC' := Lib.hid hc'
            have HUn := Lib.hid (HU.out.trans HAl.out)
            clear hc' HOk HU
            go_wp2_with fail
            go_loopw [8, 94] (fun r i wx => ∃ (f : Nat) (d : Bool), f ≤ es.length ∧ i = .int .i64 (f : Int) ∧ r = .bool d ∧ (d = true ↔ Pn ∧ ∀ e ∈ es.take f, 0 ≤ e ∧ e ≤ (nds.length : Int)) ∧ wx = wn) (fun _ i _ => es.length - (intOf i).toNat)
            case atStart => exact ⟨0, c', Nat.zero_le _, rfl, rfl, HC'.out.trans ⟨fun h => ⟨h, fun m hm => by cases hm⟩, fun h => h.1⟩, rfl⟩
            case round =>
              obtain ⟨f, d, hf, rfl, rfl, hd, e⟩ := hrel
              have e' := e.symm
              subst e'
              have HD := Lib.hid hd
              clear hd HC'
              by_cases hlf : f < es.length
              · obtain ⟨x, hxf⟩ : ∃ x, es[f]? = some x := ⟨_, List.getElem?_eq_getElem hlf⟩
                obtain ⟨_, _, e', _, hxx⟩ := HE.out.quiet HAl.out
                cases e'
                obtain ⟨b2, o2, rfl, x0, xl⟩ := hxx f x hxf
                have y1 := (HB1.out.upd HUn.out (fun h => h)).cell 1 rfl
                have yl := (HB1.out.upd HUn.out (fun h => h)).lt
                have g1 : decide ((f : Int) < (es.length : Int)) = true := decide_eq_true (by omega)
                have g1' : decide (f < es.length) = true := decide_eq_true hlf
                have j3 : (0 : Int) ≤ (f : Int) := by omega
                have j4 : (f : Int) < (es.length : Int) := by omega
                have hall := all_succ (m := (nds.length : Int)) hxf
                have HA := Lib.hid hall
                clear hall hxf hxx
                cases d
                · go_wp2_with fail
                  go_roundw
                  case rel => exact ⟨f + 1, _, by omega, by go_num, rfl, ⟨fun h => (by cases h), fun h => absurd (HD.out.2 ⟨h.1, (HA.out.1 h.2).1⟩) (by simp)⟩, by trivial⟩
                  case measure => simp [intOf]; omega
                · by_cases q1 : 0 ≤ x
                  · have f1 : decide (0 ≤ x) = true := decide_eq_true q1
                    obtain ⟨x3, f3⟩ : ∃ x3, decide (x ≤ (nds.length : Int)) = x3 := ⟨_, rfl⟩
                    have F3 := Lib.hid f3
                    go_wp2_with fail
                    go_roundw
                    case rel => exact ⟨f + 1, _, by omega, by go_num, rfl, by rw [← F3.out, decide_eq_true_iff]; exact ⟨fun h => ⟨(HD.out.1 (by simp)).1, HA.out.2 ⟨(HD.out.1 (by simp)).2, q1, h⟩⟩, fun h => (HA.out.1 h.2).2.2⟩, by trivial⟩
                    case measure => simp [intOf]; omega
                  · have f1 : decide (0 ≤ x) = false := decide_eq_false q1
                    go_wp2_with fail
                    go_roundw
                    case rel => exact ⟨f + 1, _, by omega, by go_num, rfl, ⟨fun h => (by cases h), fun h => absurd (HA.out.1 h.2).2.1 (by omega)⟩, by trivial⟩
                    case measure => simp [intOf]; omega
              · have hfe : f = es.length := by omega
                subst hfe
                have HD2 := Lib.hid (List.take_length (l := es) ▸ HD.out)
                clear HD
                go_wp2_with fail
                go_roundw
                case rel =>
                  refine ⟨k + 1, d, by omega, by go_num, ?_, rfl, ?_, HUn.out⟩
                  · rw [HTk.out]
                  · rw [OkNds.succ HNd.out, HD2.out, HPn.out]
                    unfold OkNd
                    have := HEl.out
                    dsimp only
                    constructor
                    · intro ⟨⟨h1, h2, h3, h4⟩, h5⟩
                      exact ⟨h1, ⟨h2, h3, by omega⟩, h5⟩
                    · intro ⟨h1, ⟨h2, h3, h4⟩, h5⟩
                      exact ⟨⟨h1, h2, h3, by omega⟩, h5⟩
                case measure => simp [intOf]; omega
      · have hke : k = nds.length := by omega
        subst hke
        rw [List.take_length]
        clear hU
        clear b0 b1 bl c0 c1 cl
        have hB2 := HB1.out.upd HU.out (fun h => h)
        have hC2 := HC1.out.upd HU.out (fun h => h)
        have b0 := hB2.cell 0 rfl
        have b1 := hB2.cell 1 rfl
        have bl := hB2.lt
        have c0 := hC2.cell 0 rfl
        have c1 := hC2.cell 1 rfl
        have cl := hC2.lt
        have HU2 := Lib.hid (HU1.out.trans HU.out)
        have HB2 := Lib.hid hB2
        have HC2 := Lib.hid hC2
        have HNb := Lib.hid (nwords_bound nds HSn.out)
        obtain ⟨NW, hNW⟩ : ∃ NW, NW = nwords nds := ⟨_, rfl⟩
        rw [← hNW]
        have HNW := Lib.hid hNW
        have hnb := HNb.out
        rw [← HNW.out] at hnb
        have hNWb : NW ≤ 422212465066000 := by
          have : nds.length * (1 + 2 * most) ≤ 12 * (1 + 2 * most) := Nat.mul_le_mul_right _ h1
          simp only [most] at this hnb
          omega
        clear hB2 hC2 hNW hnb HB1 HC1 HU1 HU
        generalize wr = w2 at *
        go_wp2_with fail
        go_loopw [8, 115] (fun r i wx => ∃ (f : Nat) (d : Bool), f ≤ ks.length ∧ i = .int .i64 (f : Int) ∧ r = .bool d ∧ (d = true ↔ OkKs nds ks size f) ∧ wx = w2) (fun _ i _ => ks.length - (intOf i).toNat)
        case atStart => exact ⟨0, c, Nat.zero_le _, rfl, rfl, HOk.out.trans ⟨fun h => ⟨h, fun m hm => by cases hm⟩, fun h => h.1⟩, rfl⟩
        case round =>
          obtain ⟨f, d, hf, rfl, rfl, hd, e⟩ := hrel
          have e' := e.symm
          subst e'
          have HD := Lib.hid hd
          clear hd HOk
          by_cases hlf : f < ks.length
          · as_aux_lemma =>
              obtain ⟨x, hxf⟩ : ∃ x, ks[f]? = some x := ⟨_, List.getElem?_eq_getElem hlf⟩
              obtain ⟨_, _, e', _, hxx⟩ := HK.out.quiet HU2.out
              cases e'
              obtain ⟨b2, o2, rfl, x0, xl⟩ := hxx f x hxf
              have g1 : decide ((f : Int) < (ks.length : Int)) = true := decide_eq_true (by omega)
              have g1' : decide (f < ks.length) = true := decide_eq_true hlf
              have j3 : (0 : Int) ≤ (f : Int) := by omega
              have j4 : (f : Int) < (ks.length : Int) := by omega
              have hall := all_succ (m := (nds.length : Int)) hxf
              have HA := Lib.hid hall
              clear hall hxf hxx
              cases d
              · go_wp2_with fail
                go_roundw
                case rel => exact ⟨f + 1, _, by omega, by go_num, rfl, ⟨fun h => (by cases h), fun h => absurd (HD.out.2 ⟨h.1, (HA.out.1 h.2).1⟩) (by simp)⟩, by trivial⟩
                case measure => simp [intOf]; omega
              · by_cases q1 : 0 ≤ x
                · have f1 : decide (0 ≤ x) = true := decide_eq_true q1
                  obtain ⟨x3, f3⟩ : ∃ x3, decide (x ≤ (nds.length : Int)) = x3 := ⟨_, rfl⟩
                  have F3 := Lib.hid f3
                  go_wp2_with fail
                  go_roundw
                  case rel => exact ⟨f + 1, _, by omega, by go_num, rfl, by rw [← F3.out, decide_eq_true_iff]; exact ⟨fun h => ⟨(HD.out.1 (by simp)).1, HA.out.2 ⟨(HD.out.1 (by simp)).2, q1, h⟩⟩, fun h => (HA.out.1 h.2).2.2⟩, by trivial⟩
                  case measure => simp [intOf]; omega
                · have f1 : decide (0 ≤ x) = false := decide_eq_false q1
                  go_wp2_with fail
                  go_roundw
                  case rel => exact ⟨f + 1, _, by omega, by go_num, rfl, ⟨fun h => (by cases h), fun h => absurd (HA.out.1 h.2).2.1 (by omega)⟩, by trivial⟩
                  case measure => simp [intOf]; omega
          · have hfe : f = ks.length := by omega
            subst hfe
            have hr := right_iff (nds := nds) (ks := ks) (size := size)
            rw [← HNW.out, ← HD.out] at hr
            have HRi := Lib.hid hr
            clear hr
            go_upto_region 20 with fail
            go_cut [8] from 132 (fun r wx => ∃ g : Bool, r = .bool g ∧ (g = true ↔ Right nds ks size) ∧ wx = w2)
            case first =>
              as_aux_lemma =>
                cases d
                · go_wp2_with fail
                  go_meet
                  case rel => exact ⟨_, rfl, ⟨fun h => (by cases h), fun h => absurd (HRi.out.1 h).1 (by simp)⟩, by trivial⟩
                · obtain ⟨x3, f3⟩ : ∃ x3, decide ((NW : Int) ≤ size) = x3 := ⟨_, rfl⟩
                  have F3 := Lib.hid f3
                  go_wp2_with fail
                  go_meet
                  case rel => exact ⟨_, rfl, by rw [← F3.out, decide_eq_true_iff]; exact ⟨fun h => HRi.out.2 ⟨by simp, h⟩, fun h => (HRi.out.1 h).2⟩, by trivial⟩
            case rest =>
              obtain ⟨g, rfl, hg, e⟩ := hcut
              have e' := e.symm
              subst e'
              have HG := Lib.hid hg
              clear hg HD HRi
              go_wp2_with fail
              refine (heap_any w2 _ _ ks nds (HK.out.quiet HU2.out) (HN.out.quiet HU2.out) (by omega) (by omega) size (fun n hn => by obtain ⟨l1, l2, _⟩ := HSn.out n hn; simp only [most] at l1 l2; omega) (fun n hn => (HSn.out n hn).2.2)).mono ?_
              rintro e w3 ⟨hu3, hyes, hno⟩
              have HU3 := Lib.hid hu3
              have HYes := Lib.hid hyes
              have HNo := Lib.hid hno
              clear hu3 hyes hno b0 b1 bl c0 c1 cl
              have hIK := fun (V : World) (hV : Upd (fun _ => False) w2 V) => ints_any V _ _ ks rs (HK.out.quiet (HU2.out.trans hV)) (HR.out.quiet (HU2.out.trans hV)) (by omega) (by omega)
              have HIK := Lib.hid hIK
              have HSame := Lib.hid (forms_same (HK.out.quiet HU2.out) (HN.out.quiet HU2.out) (HR.out.quiet HU2.out) (HM.out.quiet HU2.out) HSn.out HSm.out h1 h2 h3 h4)
              have HSelf := Lib.hid (same_is (forms_same (HK.out.quiet HU2.out) (HN.out.quiet HU2.out) (HK.out.quiet HU2.out) (HN.out.quiet HU2.out) HSn.out HSn.out h1 h1 h3 h3) (decide_eq_true ⟨rfl, rfl⟩))
              have HWd := Lib.hid (form_words (HK.out.quiet HU2.out) (HN.out.quiet HU2.out) HSn.out h1 HNW.out)
              clear hIK
              cases g
              focus
                obtain rfl := HNo.out (fun h => absurd (HG.out.2 h) (by simp))
                go_upto_region 27 with fail
                generalize w3 = wz at *
                have HUz := Lib.hid HU3.out
                clear HU3
              rotate_left
              focus
                obtain ⟨h, wb, sb, v, rfl, hH, hO, g1, g2, g3⟩ := HYes.out (HG.out.1 (by simp))
                have hri := HG.out.1 (by simp)
                obtain ⟨va', vc', rfl⟩ := Graph.own_form hO
                have htop := top_any w3 h wb sb size.toNat (nds.map (full nds)) _ hH
                rw [own_top, ← HNW.out] at htop
                have HTop := Lib.hid htop
                have HCk := Lib.hid (check_yes w3 h wb sb size.toNat (nds.map (full nds)) _ hH (own_leads hri))
                have b0 := (HB2.out.upd HU3.out (fun h => h)).cell 0 rfl
                have bl := (HB2.out.upd HU3.out (fun h => h)).lt
                clear hH hO hri htop
                go_wp2_with fail
                refine (HTop.out).mono ?_
                rintro e w4 ⟨rfl, rfl⟩
                go_wp2_with fail
                refine (HCk.out).mono ?_
                rintro e w4 ⟨rfl, hu4⟩
                have HUz := Lib.hid (HU3.out.trans hu4)
                clear hu4 b0 bl HTop HCk g1 g2 g3 HU3 HYes HNo
                go_upto_region 27 with fail
                generalize w4 = wz at *
              all_goals
                have b0 := (HB2.out.upd HUz.out (fun h => h)).cell 0 rfl
                have b1 := (HB2.out.upd HUz.out (fun h => h)).cell 1 rfl
                have bl := (HB2.out.upd HUz.out (fun h => h)).lt
                have c0 := (HC2.out.upd HUz.out (fun h => h)).cell 0 rfl
                have c1 := (HC2.out.upd HUz.out (fun h => h)).cell 1 rfl
                have cl := (HC2.out.upd HUz.out (fun h => h)).lt
                go_cut [18] from 179 (fun r wx => ∃ c : Bool, r = .bool c ∧ (c = true ↔ Like ks rs nds nbs 0) ∧ Upd (fun _ => False) w2 wx)
                case first => as_aux_lemma =>
                  go_wp2_with fail
                  refine (HIK.out _ HUz.out).mono ?_
                  rintro e w5 ⟨rfl, hu5⟩
                  have HU5 := Lib.hid (HUz.out.trans hu5)
                  clear hu5 b0 b1 bl c0 c1 cl
                  have b1 := (HB2.out.upd HU5.out (fun h => h)).cell 1 rfl
                  have bl := (HB2.out.upd HU5.out (fun h => h)).lt
                  have c1 := (HC2.out.upd HU5.out (fun h => h)).cell 1 rfl
                  have cl := (HC2.out.upd HU5.out (fun h => h)).lt
                  by_cases hkr : ks = rs
                  · have dk : decide (ks = rs) = true := decide_eq_true hkr
                    obtain ⟨x3, f3⟩ : ∃ x3, ((nds.length : Int) == (nbs.length : Int)) = x3 := ⟨_, rfl⟩
                    have f3' : (nds.length == nbs.length) = x3 := by rw [← f3]; rw [Bool.eq_iff_iff, beq_iff_eq, beq_iff_eq]; omega
                    have F3 := Lib.hid f3'
                    have HKr := Lib.hid hkr
                    clear hkr
                    go_wp2_with fail
                    go_meet
                    case rel => exact ⟨_, rfl, by rw [← F3.out, beq_iff_eq]; exact ⟨fun h => ⟨HKr.out, h, fun j hj => by omega⟩, fun h => h.2.1⟩, HU5.out⟩
                  · have dk : decide (ks = rs) = false := decide_eq_false hkr
                    have HKr := Lib.hid hkr
                    clear hkr
                    go_wp2_with fail
                    go_meet
                    case rel => exact ⟨_, rfl, ⟨fun h => (by cases h), fun h => absurd h.1 HKr.out⟩, HU5.out⟩
                case rest =>
                  obtain ⟨c, rfl, hc, hu⟩ := hcut
                  have HC5 := Lib.hid hc
                  have HU5 := Lib.hid hu
                  clear hc hu b0 b1 bl c0 c1 cl
                  go_wp2_with fail
                  go_loopw [18, 19] (fun r i wx => ∃ (k : Nat) (d : Bool), k ≤ nds.length ∧ i = .int .i64 (k : Int) ∧ r = .bool d ∧ (d = true ↔ Like ks rs nds nbs k) ∧ Upd (fun _ => False) w2 wx) (fun _ i _ => nds.length - (intOf i).toNat)
                  case atStart => exact ⟨0, c, Nat.zero_le _, rfl, rfl, HC5.out, HU5.out⟩
                  case round =>
                    obtain ⟨k, d, hk, rfl, rfl, hd, hU⟩ := hrel
                    have HD := Lib.hid hd
                    have HUr := Lib.hid hU
                    have b0 := (HB2.out.upd hU (fun h => h)).cell 0 rfl
                    have b1 := (HB2.out.upd hU (fun h => h)).cell 1 rfl
                    have bl := (HB2.out.upd hU (fun h => h)).lt
                    have c0 := (HC2.out.upd hU (fun h => h)).cell 0 rfl
                    have c1 := (HC2.out.upd hU (fun h => h)).cell 1 rfl
                    have cl := (HC2.out.upd hU (fun h => h)).lt
                    clear hd HC5 HU5 hU
                    by_cases hgo : d = true ∧ k < nds.length
                    · as_aux_lemma =>
                        obtain ⟨rfl, hlk⟩ := hgo
                        have hlike := HD.out.1 (by simp)
                        have hll := hlike.2.1
                        obtain ⟨⟨kx, ex, wx⟩, hx⟩ : ∃ nd, nds[k]? = some nd := ⟨_, List.getElem?_eq_getElem hlk⟩
                        obtain ⟨⟨ky, ey, wy⟩, hy⟩ : ∃ nd, nbs[k]? = some nd := ⟨_, List.getElem?_eq_getElem (by omega)⟩
                        obtain ⟨_, _, e', hxx⟩ := HN.out.quiet (HU2.out.trans HUr.out)
                        cases e'
                        obtain ⟨_, _, e', hyy⟩ := HM.out.quiet (HU2.out.trans HUr.out)
                        cases e'
                        obtain ⟨bx, ox, xe, xw, rfl, xl, n0, n1, n2, xi1, xi2⟩ := hxx k _ hx
                        obtain ⟨by', oy, ye, yw, rfl, yl, m0, m1, m2, yi1, yi2⟩ := hyy k _ hy
                        obtain ⟨sx1, sx2, _⟩ := HSn.out _ (List.mem_of_getElem? hx)
                        obtain ⟨sy1, sy2, _⟩ := HSm.out _ (List.mem_of_getElem? hy)
                        have hnext := Like.succ (ks := ks) (rs := rs) hx hy
                        dsimp only [most] at n0 m0 xi1 xi2 yi1 yi2 sx1 sx2 sy1 sy2
                        have HNx := Lib.hid hnext
                        have HQ1 := Lib.hid (fun n => ints_quiet (wr.drewN n) xe ye ex ey (xi1.quiet ((Upd.refl _ wr).drewN n)) (yi1.quiet ((Upd.refl _ wr).drewN n)) (by omega) (by omega))
                        have HQ2 := Lib.hid (fun n => ints_quiet (wr.drewN n) xw yw wx wy (xi2.quiet ((Upd.refl _ wr).drewN n)) (yi2.quiet ((Upd.refl _ wr).drewN n)) (by omega) (by omega))
                        have g1 : decide ((k : Int) < (nds.length : Int)) = true := decide_eq_true (by omega)
                        have g1' : decide (k < nds.length) = true := decide_eq_true hlk
                        have j1 : (0 : Int) ≤ (k : Int) := by omega
                        have j2 : (k : Int) < (nds.length : Int) := by omega
                        have j3 : (k : Int) < (nbs.length : Int) := by omega
                        have hls := HD.out.1 (by simp)
                        have HLs := Lib.hid hls
                        clear hls hlike hll hx hy hxx hyy xi1 xi2 yi1 yi2 sx1 sx2 sy1 sy2 hnext
                        by_cases q1 : kx = ky
                        · have f1 : (kx == ky) = true := by rw [beq_iff_eq]; exact q1
                          have Q1 := Lib.hid q1
                          clear q1
                          by_cases q2 : ex = ey
                          · have hq1 := HQ1.out
                            rw [decide_eq_true q2] at hq1
                            have HQ1' := Lib.hid hq1
                            obtain ⟨x3, f3⟩ : ∃ x3, decide (wx = wy) = x3 := ⟨_, rfl⟩
                            have hq2 := HQ2.out
                            rw [f3] at hq2
                            have HQ2' := Lib.hid hq2
                            have F3 := Lib.hid f3
                            have Q2 := Lib.hid q2
                            clear q2 hq1 hq2 HQ1 HQ2 f3
                            go_wp2_with fail
                            go_big_quiet (first | (go_at_call 24; with_reducible exact Calls.quiet_of (HQ1'.out _)) | (go_at_call 24; with_reducible exact Calls.quiet_of (HQ2'.out _)))
                            have uq : Upd (fun _ => False) w2 (wr.drewN nq) := HUr.out.trans ((Upd.refl _ wr).drewN nq)
                            generalize wr.drewN nq = wd at *
                            have HUd := Lib.hid uq
                            clear uq n0 n1 n2 m0 m1 m2 b0 b1 c0 c1
                            go_wp2_with fail
                            go_roundw
                            case rel => exact ⟨k + 1, _, by omega, by go_num, rfl, by rw [HNx.out, ← F3.out, decide_eq_true_iff]; exact ⟨fun h => ⟨HLs.out, by rw [Q1.out, Q2.out, h]⟩, fun h => congrArg Nd.words h.2⟩, HUd.out⟩
                            case measure => simp [intOf]; omega
                          · have hq1 := HQ1.out
                            rw [decide_eq_false q2] at hq1
                            have HQ1' := Lib.hid hq1
                            have Q2 := Lib.hid q2
                            clear q2 hq1 HQ1 HQ2
                            go_wp2_with fail
                            go_big_quiet ((go_at_call 24; with_reducible exact Calls.quiet_of (HQ1'.out _)))
                            have uq : Upd (fun _ => False) w2 (wr.drewN nq) := HUr.out.trans ((Upd.refl _ wr).drewN nq)
                            generalize wr.drewN nq = wd at *
                            have HUd := Lib.hid uq
                            clear uq n0 n1 n2 m0 m1 m2 b0 b1 c0 c1
                            go_wp2_with fail
                            go_roundw
                            case rel => exact ⟨k + 1, _, by omega, by go_num, rfl, by rw [HNx.out]; exact ⟨fun h => (by cases h), fun h => absurd (congrArg Nd.edges h.2) Q2.out⟩, HUd.out⟩
                            case measure => simp [intOf]; omega
                        · have f1 : (kx == ky) = false := by rw [beq_eq_false_iff_ne]; exact q1
                          have Q1 := Lib.hid q1
                          clear q1 HQ1 HQ2
                          go_wp2_with fail
                          go_big_quiet (fail)
                          have uq : Upd (fun _ => False) w2 (wr.drewN nq) := HUr.out.trans ((Upd.refl _ wr).drewN nq)
                          generalize wr.drewN nq = wd at *
                          have HUd := Lib.hid uq
                          clear uq n0 n1 n2 m0 m1 m2 b0 b1 c0 c1
                          go_wp2_with fail
                          go_roundw
                          case rel => exact ⟨k + 1, _, by omega, by go_num, rfl, by rw [HNx.out]; exact ⟨fun h => (by cases h), fun h => absurd (congrArg Nd.kind h.2) Q1.out⟩, HUd.out⟩
                          case measure => simp [intOf]; omega
                    · as_aux_lemma =>
                        have hend : decide (ks = rs ∧ nds = nbs) = d := by
                          cases d
                          · exact decide_eq_false (fun h => absurd (HD.out.2 (Like.same k h)) (by simp))
                          · have hkl : k = nds.length := by
                              have : ¬ k < nds.length := fun h => hgo ⟨rfl, h⟩
                              omega
                            have h := HD.out.1 (by simp)
                            rw [hkl] at h
                            exact decide_eq_true (like_all.1 h)
                        have HS1 := Lib.hid (same_is (HSame.out) hend)
                        clear hend
                        have fin : (d = true ∧ k = nds.length) ∨ d = false := by
                          cases d
                          · exact .inr rfl
                          · exact .inl ⟨rfl, by have : ¬ k < nds.length := fun h => hgo ⟨rfl, h⟩; omega⟩
                        clear hgo HD
                        rcases fin with ⟨rfl, rfl⟩ | rfl
                        all_goals
                          go_wp2_with fail
                          refine (HWd.out _ HUr.out).mono ?_
                          rintro e w5 ⟨rfl, hu5⟩
                          have HU5 := Lib.hid (HUr.out.trans hu5)
                          clear hu5 b0 b1 bl c0 c1 cl
                          have b0 := (HB2.out.upd HU5.out (fun h => h)).cell 0 rfl
                          have b1 := (HB2.out.upd HU5.out (fun h => h)).cell 1 rfl
                          have bl := (HB2.out.upd HU5.out (fun h => h)).lt
                          have c0 := (HC2.out.upd HU5.out (fun h => h)).cell 0 rfl
                          have c1 := (HC2.out.upd HU5.out (fun h => h)).cell 1 rfl
                          have cl := (HC2.out.upd HU5.out (fun h => h)).lt
                          go_wp2_with fail
                          refine (HS1.out _ HU5.out).mono ?_
                          rintro e w6 ⟨rfl, hu6⟩
                          have HU6 := Lib.hid (HU5.out.trans hu6)
                          clear hu6 b0 b1 bl c0 c1 cl
                          have b0 := (HB2.out.upd HU6.out (fun h => h)).cell 0 rfl
                          have b1 := (HB2.out.upd HU6.out (fun h => h)).cell 1 rfl
                          have bl := (HB2.out.upd HU6.out (fun h => h)).lt
                          go_wp2_with fail
                          refine (HSelf.out _ HU6.out).mono ?_
                          rintro e w7 ⟨rfl, hu7⟩
                          have HU7 := Lib.hid (HU6.out.trans hu7)
                          clear hu7 b0 b1 bl
                          go_wp2
                          go_ret
                          exact ⟨rfl, HU2.out.trans HU7.out⟩
end Go.Proofs.Ytlphlaenecidiaa.Heaps
