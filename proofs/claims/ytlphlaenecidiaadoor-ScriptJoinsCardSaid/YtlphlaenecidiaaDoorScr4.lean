/- Scripts: Parse: what it reckons. -/
import Derived.Test.YtlphlaenecidiaaDoorScr3
import Derived.Test.YtlphlaenecidiaaDoorRes
import Derived.BigQuiet
set_option linter.unusedSimpArgs false
namespace Go.Proofs.YtlphlaenecidiaaDoor.Scr
open Go.RowKit Go.Proofs.YtlphlaenecidiaaDoor.Mem

/-- An entry of some numbers. -/
def mkEnt (op : Int) (l : List Int) : Ent := ⟨op, l.getD 0 0, l.getD 1 0, l.getD 2 0, l.getD 3 0⟩
theorem mkEnt_set (op : Int) (l : List Int) (j : Nat) (x : Int) (hj : j < 4) (hx : l[j]? = some x) : (mkEnt op (l.take j)).cells.set (1 + j) (.int .i64 x) = (mkEnt op (l.take (j + 1))).cells := by
  have hg : ∀ (i k : Nat), (l.take k).getD i 0 = if i < k then l.getD i 0 else 0 := by
    intro i k
    rw [List.getD_eq_getElem?_getD, List.getD_eq_getElem?_getD, List.getElem?_take]
    split <;> rfl
  have hxd : l.getD j 0 = x := by rw [List.getD_eq_getElem?_getD, hx]; rfl
  unfold mkEnt Ent.cells
  simp only [hg]
  rcases (show j = 0 ∨ j = 1 ∨ j = 2 ∨ j = 3 by omega) with rfl | rfl | rfl | rfl <;> simp_all
/-- The op that a word tells; none: 0. -/
def opOf (p : List UInt8) : Int := Lib.idxOfS wordsB ⟨p.toArray⟩ + 1
/-- What Parse makes of a line's parts. -/
def made (ps : List (List UInt8)) : Ent := mkEnt (opOf (ps.getD 0 [])) (ps.tail.map numOf)
/-- May the parts be an entry's, and have they its line? -/
def fits (l : List UInt8) : Prop := opOf ((spl l).getD 0 []) ≠ 0 ∧ ((spl l).length : Int) = 1 + manyOf (opOf ((spl l).getD 0 [])) ∧ (made (spl l)).good ∧ (made (spl l)).line = l
instance (l : List UInt8) : Decidable (fits l) := by unfold fits; infer_instance
theorem opOf_range (p : List UInt8) : 0 ≤ opOf p ∧ opOf p ≤ 12 := by
  unfold opOf Lib.idxOfS
  have h : ∀ (zs : List ByteArray) (x : ByteArray) (i : Nat), -1 ≤ Lib.idxFromS zs x i ∧ Lib.idxFromS zs x i < (i + zs.length : Nat) := by
    intro zs
    induction zs with
    | nil => intro x i; simp [Lib.idxFromS]; omega
    | cons z zs ih =>
      intro x i
      unfold Lib.idxFromS
      split
      · constructor
        · omega
        · rw [List.length_cons]; omega
      · have := ih x (i + 1)
        simp only [List.length_cons]
        omega
  have := h wordsB ⟨p.toArray⟩ 0
  have e : wordsB.length = 12 := rfl
  omega

theorem Blk.set5 {w : World} {b : Nat} {x0 x1 x2 x3 x4 : Value} {t : TypeId} (h : Blk w b [x0, x1, x2, x3, x4] t) (y0 y1 y2 y3 y4 : Value) :
    Blk (((((w.setCell ⟨b, 0, none⟩ y0).setCell ⟨b, 1, none⟩ y1).setCell ⟨b, 2, none⟩ y2).setCell ⟨b, 3, none⟩ y3).setCell ⟨b, 4, none⟩ y4) b [y0, y1, y2, y3, y4] t :=
  ((((h.set 0 y0).set 1 y1).set 2 y2).set 3 y3).set 4 y4
theorem Upd.set5 {S : Nat → Prop} {a w : World} (h : Upd S a w) (b : Nat) (y0 y1 y2 y3 y4 : Value) (hb : b < a.heap.size → S b) :
    Upd S a (((((w.setCell ⟨b, 0, none⟩ y0).setCell ⟨b, 1, none⟩ y1).setCell ⟨b, 2, none⟩ y2).setCell ⟨b, 3, none⟩ y3).setCell ⟨b, 4, none⟩ y4) :=
  ((((h.setCell (p := ⟨b, 0, none⟩) y0 hb).setCell (p := ⟨b, 1, none⟩) y1 hb).setCell (p := ⟨b, 2, none⟩) y2 hb).setCell (p := ⟨b, 3, none⟩) y3 hb).setCell (p := ⟨b, 4, none⟩) y4 hb
theorem str_ne {a b : ByteArray} (h : a ≠ b) : (a.toList == b.toList) = false := by
  rw [beq_eq_false_iff_ne]
  intro e
  rw [ByteArray.toList_eq, ByteArray.toList_eq] at e
  exact h (WideShapes.bytes_inj e)
theorem ret_v {a b : Value} (h : a = b) : Ending.returned a = .returned b := by rw [h]
theorem wrap64_in {x : Int} (h : -9223372036854775808 ≤ x ∧ x ≤ 9223372036854775807) : wrap64 x = x := by
  unfold wrap64
  omega
/-- What Parse answers. -/
def parsed (l : List UInt8) : Value := if fits l then .tuple #[(made (spl l)).val, .int .i64 0] else .tuple #[(mkEnt 0 []).val, .int .i64 10]
theorem parsed_no {l : List UInt8} (h : ¬ fits l) : parsed l = .tuple #[(mkEnt 0 []).val, .int .i64 10] := by unfold parsed; rw [if_neg h]
theorem parts_of (s : ByteArray) : ∃ (p0 : ByteArray) (rest : List ByteArray), Lib.splitB ⟨#[32]⟩ 0 (Lib.countB s ⟨#[32]⟩) s = p0 :: rest ∧ rest.length = Lib.countB s ⟨#[32]⟩ ∧ spl s.data.toList = p0.data.toList :: rest.map (·.data.toList) := by
  have h1 := Lib.splitB_all ⟨#[32]⟩ (by decide) 0 _ s rfl
  have h2 := Lib.splitB_data ⟨#[32]⟩ 0 (Lib.countB s ⟨#[32]⟩) s
  have h3 : Lib.splitK [32] 0 (Lib.countB s ⟨#[32]⟩) s.data.toList = spl s.data.toList := split_spl _ s.data.toList (Nat.le_refl _)
  cases hp : Lib.splitB ⟨#[32]⟩ 0 (Lib.countB s ⟨#[32]⟩) s with
  | nil => rw [hp] at h1; simp at h1
  | cons p0 rest =>
    rw [hp] at h1 h2
    refine ⟨p0, rest, rfl, by simpa using h1, ?_⟩
    rw [← h3]
    exact h2.symm

set_option maxRecDepth 20000 in
set_option maxHeartbeats 8000000 in
theorem parse_any (w : World) (T : Tabs w) (R : Errs w) (s : ByteArray) (hs : s.size ≤ 1000000) :
    Calls Tryd.prog 9 #[.string s] w fun x w' => x = .returned (parsed s.data.toList) ∧ Upd (fun _ => False) w w' := by
  obtain ⟨p0, rest, hp, hrl, hspl⟩ := parts_of s
  obtain ⟨l, hl⟩ : ∃ l, l = s.data.toList := ⟨_, rfl⟩
  rw [← hl] at hspl ⊢
  obtain ⟨n, hn⟩ : ∃ n, n = Lib.countB s ⟨#[32]⟩ := ⟨_, rfl⟩
  have hcl := Lib.countB_le ⟨#[32]⟩ (by decide) _ s (Nat.le_refl _)
  rw [← hn] at hrl hcl hp
  obtain ⟨mx, hmx⟩ := T.maxlen
  have hu0 := (Upd.refl (fun _ => False) w).alloc (.cells (mkEnt 0 []).cells.toArray 25)
  have hrb := Blk.made w (mkEnt 0 []).cells 25
  have hmx0 := Tabs.quiet T hu0
  have hsp := Tryd.strings_Split s ⟨#[32]⟩ mx (w.alloc (.cells (mkEnt 0 []).cells.toArray 25)) (by omega) (by
    have hb := World.block_lt_of_cell? w _ hmx
    rw [World.cell?, hu0.block _ hb (fun h => h)]
    exact hmx) (by decide)
  rw [← hn, hp] at hsp
  have hw1 : (w.alloc (.cells (mkEnt 0 []).cells.toArray 25)).heap.size = w.heap.size + 1 := World.size_alloc _ _
  have HSp := Lib.hid hsp
  have HT := Lib.hid T
  have HR := Lib.hid R
  have HSpl := Lib.hid hspl
  have HL := Lib.hid hl
  clear hmx hmx0 hsp hspl hl hp hn T R
  go_enter Tryd.func9, Tryd.ntmps9
  go_wp2_with fail
  refine (HSp.out).mono ?_
  rintro x w1 ⟨rfl, rfl⟩
  have hu1 := hu0.alloc (.cells (List.map Value.string (p0 :: rest)).toArray 9)
  have hpb := Blk.made (w.alloc (.cells (mkEnt 0 []).cells.toArray 25)) (List.map Value.string (p0 :: rest)) 9
  have hrb1 := hrb.alloc (.cells (List.map Value.string (p0 :: rest)).toArray 9)
  rw [hw1] at hpb ⊢
  generalize (w.alloc (.cells (mkEnt 0 []).cells.toArray 25)).alloc (.cells (List.map Value.string (p0 :: rest)).toArray 9) = w1 at *
  have HPb := Lib.hid hpb
  have HRb := Lib.hid hrb1
  have HU1 := Lib.hid hu1
  have c0 := hpb.cell 0 rfl
  have cl := hpb.lt
  have T1 := HT.out.quiet hu1
  have HIx := Lib.hid (fun k c => index_words (w1.drewN k) (T1.quiet ((Upd.refl _ w1).drewN k)) p0 c)
  have i1 : (0 : Int) < ((n + 1 : Nat) : Int) := by omega
  have il := T1.low
  clear hu0 hrb hw1 hu1 hpb hrb1 HSp T1
  go_wp2_with fail
  go_big_quiet ((go_at_call 18; with_reducible exact Calls.quiet_of_same (HIx.out _ _)))
  have hor := opOf_range p0.data.toList
  have hop : wrap64 (Lib.idxOfS wordsB p0 + 1) = opOf p0.data.toList := by
    have e : opOf p0.data.toList = Lib.idxOfS wordsB p0 + 1 := rfl
    rw [e] at hor ⊢
    exact wrap64_in (by omega)
  generalize wrap64 (Lib.idxOfS wordsB p0 + 1) = op at *
  have uq : Upd (fun _ => False) w (w1.drewN nq) := HU1.out.drewN nq
  have uq1 : Upd (fun _ => False) w1 (w1.drewN nq) := (Upd.refl _ w1).drewN nq
  have HPb2 := Lib.hid (HPb.out.upd uq1 (fun h => h))
  have HRb2 := Lib.hid (HRb.out.upd uq1 (fun h => h))
  generalize w1.drewN nq = w2 at *
  have HU2 := Lib.hid uq
  have HOp := Lib.hid hop
  rw [← hop] at hor
  have T2 := HT.out.quiet uq
  have r0 := HRb2.out.cell 0 rfl
  have r1 := HRb2.out.cell 1 rfl
  have r2 := HRb2.out.cell 2 rfl
  have r3 := HRb2.out.cell 3 rfl
  have r4 := HRb2.out.cell 4 rfl
  have rf0 := HRb2.out.frozen 0
  have rf1 := HRb2.out.frozen 1
  have rf2 := HRb2.out.frozen 2
  have rf3 := HRb2.out.frozen 3
  have rf4 := HRb2.out.frozen 4
  have rl := HRb2.out.lt
  have HT2 := Lib.hid T2
  clear uq uq1 hop T2 c0 cl il HPb HRb HU1
  by_cases h0 : op = 0
  · have d0 : (op == 0) = true := by rw [beq_iff_eq]; exact h0
    have hno : ¬ fits l := fun hf => hf.1 (by rw [HSpl.out]; exact HOp.out.symm.trans h0)
    have HNo := Lib.hid (parsed_no hno)
    clear hno h0
    go_wp2_with fail
    refine bodyPost_ret (res_cell_tmp rfl _ _ w.heap.size _ 25 _ _ rfl rfl (Blk.set5 HRb2.out (.int .i64 0) (.int .i64 0) (.int .i64 0) (.int .i64 0) (.int .i64 0)) Tryd.underlying25 rfl (by kernel_rfl)) rfl ⟨ret_v (by rw [HNo.out]; rfl), Upd.set5 HU2.out _ _ _ _ _ _ (fun h => by omega)⟩
  · have d0 : (op == 0) = false := by rw [beq_eq_false_iff_ne]; exact h0
    obtain ⟨k, hk⟩ : ∃ k : Nat, op = (k : Int) := ⟨op.toNat, by omega⟩
    have hkl : k < manyL.length := by simp only [manyL, List.length_cons, List.length_nil]; omega
    obtain ⟨m, hm⟩ : ∃ m, manyL[k]? = some m := ⟨_, List.getElem?_eq_getElem hkl⟩
    have hmo : manyOf op = (m : Int) := by unfold manyOf; rw [if_pos (by omega), hk, Int.toNat_natCast, List.getD_eq_getElem?_getD, hm]; rfl
    have hm4 := many_range op
    rw [hmo] at hm4
    have i2 : (0 : Int) ≤ (k : Int) := by omega
    have i3 : (k : Int) < 13 := by omega
    have s1 : IntKind.i64.wrap (1 + (m : Int)) = 1 + (m : Int) := IntWalk.i64_in _ (by omega)
    have c1 := HT2.out.many k m hm
    have cl := HT2.out.low
    have HMo := Lib.hid hmo
    have HK := Lib.hid hk
    have HLen := Lib.hid (show ((spl l).length : Int) = ((n + 1 : Nat) : Int) by rw [HSpl.out, List.length_cons, List.length_map, hrl])
    have HHd := Lib.hid (show opOf ((spl l).getD 0 []) = op by rw [HSpl.out]; exact HOp.out.symm)
    subst hk
    have HK0 := Lib.hid h0
    clear hm hmo hkl h0 hor
    by_cases hnm : n = m
    · subst hnm
      have d1 : ((((n + 1 : Nat) : Int)) != 1 + (n : Int)) = false := by rw [bne_eq_false_iff_eq]; omega
      have d1' : ((n : Int) + 1 != 1 + (n : Int)) = false := by rw [bne_eq_false_iff_eq]; omega
      obtain ⟨off, hoff⟩ : ∃ off, off = if n = 0 then 0 else 1 := ⟨_, rfl⟩
      have hif : (if n = 0 then some (⟨w.heap.size + 1, 0, none⟩ : Addr) else some ⟨w.heap.size + 1, 1, none⟩) = some ⟨w.heap.size + 1, off, none⟩ := by rw [hoff]; split <;> rfl
      have HOff := Lib.hid hoff
      clear hoff
      go_wp2_with fail
      have hu3 : Upd (fun _ => False) w2 (w2.alloc (.cells #[.int .i64 (k : Int), .int .i64 0, .int .i64 0, .int .i64 0, .int .i64 0] 25)) := (Upd.refl _ w2).alloc _
      have heb := Blk.made w2 (mkEnt (k : Int) []).cells 25
      have hs3 : (w2.alloc (.cells #[.int .i64 (k : Int), .int .i64 0, .int .i64 0, .int .i64 0, .int .i64 0] 25)).heap.size = w2.heap.size + 1 := World.size_alloc _ _
      have heb' : Blk (w2.alloc (.cells #[.int .i64 (k : Int), .int .i64 0, .int .i64 0, .int .i64 0, .int .i64 0] 25)) w2.heap.size (mkEnt (k : Int) []).cells 25 := heb
      generalize w2.alloc (.cells #[.int .i64 (k : Int), .int .i64 0, .int .i64 0, .int .i64 0, .int .i64 0] 25) = w3 at *
      have HEb := Lib.hid heb'
      have HU3 := Lib.hid (HU2.out.trans hu3)
      have hlw : w.heap.size + 1 < w2.heap.size := HPb2.out.lt
      have HPb3 := Lib.hid (HPb2.out.upd hu3 (fun h => h))
      have HRb3 := Lib.hid (HRb2.out.upd hu3 (fun h => h))
      clear hu3 heb heb' hif r0 r1 r2 r3 r4 rf0 rf1 rf2 rf3 rf4 rl c1 cl
      obtain ⟨vals, hvals⟩ : ∃ vals : List Int, vals = rest.map fun b => numOf b.data.toList := ⟨_, rfl⟩
      have hvl : vals.length = n := by rw [hvals, List.length_map, hrl]
      have HVals := Lib.hid hvals
      clear hvals
      go_loopw [34] (fun i wr => ∃ j : Nat, j ≤ n ∧ i = .int .i64 (j : Int) ∧ Blk wr w2.heap.size (mkEnt (k : Int) (vals.take j)).cells 25 ∧ Upd (fun b => b = w2.heap.size) w3 wr) (fun i _ => n - (Lib.intOf i).toNat)
      case atStart => exact ⟨0, Nat.zero_le _, rfl, HEb.out, Upd.refl _ _⟩
      case round =>
        obtain ⟨j, hj, rfl, hB, hU⟩ := hrel
        have HB := Lib.hid hB
        have HUr := Lib.hid hU
        have hur : Upd (fun _ => False) w wr := HU3.out.next hU (fun i hi e => by omega)
        have HUw := Lib.hid hur
        clear hB hU hur
        by_cases hjn : j < n
        · obtain ⟨b, hb⟩ : ∃ b, rest[j]? = some b := ⟨_, List.getElem?_eq_getElem (by omega)⟩
          have hofv : off = 1 := by rw [HOff.out, if_neg (by omega)]
          have pc := (HPb3.out.upd HUr.out (by omega)).cell (1 + j) (v := .string b) (by rw [List.getElem?_map, Nat.add_comm, List.getElem?_cons_succ, hb]; rfl)
          have bsz : b.size ≤ 281474976710656 := by
            have h1 := spl_len l b.data.toList (by rw [HSpl.out]; exact List.mem_cons_of_mem _ (List.mem_map.2 ⟨b, List.mem_of_getElem? hb, rfl⟩))
            rw [HL.out] at h1
            have e1 : b.data.toList.length = b.size := rfl
            have e2 : s.data.toList.length = s.size := rfl
            omega
          have HAt := Lib.hid (atoi_any wr (HR.out.quiet HUw.out) b bsz)
          have hv : vals[j]? = some (numOf b.data.toList) := by rw [HVals.out, List.getElem?_map, hb]; rfl
          obtain ⟨old, hold⟩ : ∃ old, (mkEnt (k : Int) (vals.take j)).cells[1 + j]? = some old := ⟨_, List.getElem?_eq_getElem (by show 1 + j < 5; omega)⟩
          have HV := Lib.hid hv
          have HOld := Lib.hid hold
          have e1 : decide ((j : Int) < (n : Int)) = true := decide_eq_true (by omega)
          have e1' : decide (j < n) = true := decide_eq_true hjn
          have j1 : (0 : Int) ≤ (j : Int) := by omega
          have j2 : (j : Int) < (n : Int) := by omega
          have j3 : (j : Int) < 4 := by omega
          subst hofv
          clear hb hv hold bsz
          go_wp2_with fail
          refine (HAt.out).mono ?_
          rintro x w4 ⟨⟨ev, rfl⟩, hu4⟩
          have hB4 := HB.out.upd hu4 (fun h => h)
          have o0 := hB4.cell (1 + j) HOld.out
          have of0 := hB4.frozen (1 + j)
          have ol := hB4.lt
          have HB4 := Lib.hid hB4
          have HU4 := Lib.hid (HUr.out.next hu4 (fun _ _ h => h.elim))
          clear hu4 hB4 pc
          go_wp2_with fail
          go_roundw
          case rel =>
            refine ⟨j + 1, by omega, by go_num, ?_, HU4.out.setCell _ (fun _ => rfl)⟩
            rw [← mkEnt_set _ vals j _ (by omega) HV.out]
            exact HB4.out.set (1 + j) _
          case measure => simp [Lib.intOf]; omega
        · have hje : j = n := by omega
          subst hje
          obtain ⟨E, hE⟩ : ∃ E, E = mkEnt (k : Int) vals := ⟨_, rfl⟩
          have hB2 := HB.out
          rw [List.take_of_length_le (by omega), ← hE] at hB2
          have hmade : made (spl l) = E := by
            unfold made
            rw [HHd.out, HSpl.out, hE, HVals.out, List.tail_cons, List.map_map]
            rfl
          have h64 : ∀ x ∈ E.ns, -9223372036854775808 ≤ x ∧ x ≤ 9223372036854775807 := by
            have hg : ∀ i, -9223372036854775808 ≤ vals.getD i 0 ∧ vals.getD i 0 ≤ 9223372036854775807 := by
              intro i
              rw [List.getD_eq_getElem?_getD]
              cases hv : vals[i]? with
              | none => simp
              | some v =>
                have hm := List.mem_of_getElem? hv
                rw [HVals.out] at hm
                obtain ⟨b, _, rfl⟩ := List.mem_map.1 hm
                exact numOf_64 _
            intro x hx
            rw [hE] at hx
            simp only [mkEnt, Ent.ns, List.mem_cons, List.not_mem_nil, or_false] at hx
            rcases hx with rfl | rfl | rfl | rfl <;> exact hg _
          have hfit : fits l ↔ E.good ∧ E.line = l := by
            unfold fits
            rw [HHd.out, HMo.out, HLen.out, hmade]
            constructor
            · intro h; exact h.2.2
            · intro h
              have := HK0.out
              exact ⟨this, by omega, h⟩
          have htx := text_any wr (HT.out.quiet HUw.out) E h64
          obtain ⟨X, hX⟩ : ∃ X : ByteArray, X = ⟨(if E.good then E.line else []).toArray⟩ := ⟨_, rfl⟩
          rw [← hX] at htx
          have hXs : X = s ↔ fits l := by
            rw [hfit, hX]
            constructor
            · intro h
              have h1 : (if E.good then E.line else []) = l := by rw [HL.out, ← h]
              by_cases hg : E.good
              · rw [if_pos hg] at h1; exact ⟨hg, h1⟩
              · rw [if_neg hg] at h1
                exfalso
                have h2 := HHd.out
                rw [← h1] at h2
                have h3 : opOf ((spl []).getD 0 []) = 0 := by decide
                rw [h3] at h2
                exact HK0.out h2.symm
            · intro h
              rw [if_pos h.1, h.2, HL.out]
          have r0 := (HRb3.out.upd HUr.out (by omega)).cell 0 rfl
          have q0 := hB2.cell 0 rfl
          have q1 := hB2.cell 1 rfl
          have q2 := hB2.cell 2 rfl
          have q3 := hB2.cell 3 rfl
          have q4 := hB2.cell 4 rfl
          have ql := hB2.lt
          have HTx := Lib.hid htx
          have HXs := Lib.hid hXs
          have HMade := Lib.hid hmade
          have HB2 := Lib.hid hB2
          clear hE hB2 hmade h64 hfit htx hX hXs r0
          go_wp2_with fail
          refine (HTx.out).mono ?_
          rintro x w5 ⟨rfl, hu5⟩
          have hR5 := (HRb3.out.upd HUr.out (by omega)).upd hu5 (fun h => h)
          have hB5 := HB2.out.upd hu5 (fun h => h)
          have r0 := hR5.cell 0 rfl
          have r1 := hR5.cell 1 rfl
          have r2 := hR5.cell 2 rfl
          have r3 := hR5.cell 3 rfl
          have r4 := hR5.cell 4 rfl
          have rf0 := hR5.frozen 0
          have rf1 := hR5.frozen 1
          have rf2 := hR5.frozen 2
          have rf3 := hR5.frozen 3
          have rf4 := hR5.frozen 4
          have rl := hR5.lt
          clear q0 q1 q2 q3 q4 ql
          have q0 := hB5.cell 0 rfl
          have q1 := hB5.cell 1 rfl
          have q2 := hB5.cell 2 rfl
          have q3 := hB5.cell 3 rfl
          have q4 := hB5.cell 4 rfl
          have ql := hB5.lt
          have HR5 := Lib.hid hR5
          have HU5 := Lib.hid (HUw.out.trans hu5)
          clear hu5 hR5 hB5
          by_cases hf : fits l
          · have hx := HXs.out.2 hf
            have x1 : (X.toList == s.toList) = true := by rw [hx]; exact beq_self_eq_true _
            have HF := Lib.hid hf
            clear hf hx
            go_wp2_with fail
            refine bodyPost_ret (res_cell_tmp rfl _ _ w.heap.size _ 25 _ _ rfl rfl (Blk.set5 HR5.out (.int .i64 E.op) (.int .i64 E.n0) (.int .i64 E.n1) (.int .i64 E.n2) (.int .i64 E.n3)) Tryd.underlying25 rfl (by kernel_rfl)) rfl ⟨ret_v (by unfold parsed; rw [if_pos HF.out, HMade.out]; rfl), Upd.set5 HU5.out _ _ _ _ _ _ (fun h => by omega)⟩
          · have hx : X ≠ s := fun h => hf (HXs.out.1 h)
            have x1 : (X.toList == s.toList) = false := str_ne hx
            have HNo := Lib.hid (parsed_no hf)
            clear hf hx
            go_wp2_with fail
            refine bodyPost_ret (res_cell_tmp rfl _ _ w.heap.size _ 25 _ _ rfl rfl (Blk.set5 HR5.out (.int .i64 0) (.int .i64 0) (.int .i64 0) (.int .i64 0) (.int .i64 0)) Tryd.underlying25 rfl (by kernel_rfl)) rfl ⟨ret_v (by rw [HNo.out]; rfl), Upd.set5 HU5.out _ _ _ _ _ _ (fun h => by omega)⟩
    · have d1 : ((((n + 1 : Nat) : Int)) != 1 + (m : Int)) = true := by rw [bne_iff_ne]; omega
      have d1' : ((n : Int) + 1 != 1 + (m : Int)) = true := by rw [bne_iff_ne]; omega
      have hno : ¬ fits l := fun hf => by
        have h2 := hf.2.1
        rw [HHd.out, HMo.out, HLen.out] at h2
        omega
      have HNo := Lib.hid (parsed_no hno)
      clear hno hnm
      go_wp2_with fail
      refine bodyPost_ret (res_cell_tmp rfl _ _ w.heap.size _ 25 _ _ rfl rfl (Blk.set5 HRb2.out (.int .i64 0) (.int .i64 0) (.int .i64 0) (.int .i64 0) (.int .i64 0)) Tryd.underlying25 rfl (by kernel_rfl)) rfl ⟨ret_v (by rw [HNo.out]; rfl), Upd.set5 HU2.out _ _ _ _ _ _ (fun h => by omega)⟩
end Go.Proofs.YtlphlaenecidiaaDoor.Scr
