/- What stands in memory while a told graph is built. -/
import Derived.Test.YtjlcjcgoaakniaaBuild2
namespace Go.Proofs.Ytjlcjcgoaakniaa.Build
open Go.RowKit Go.Proofs.Ytjlcjcgoaakniaa.Mem Go.Proofs.Ytjlcjcgoaakniaa.Obj Go.Proofs.Ytjlcjcgoaakniaa.Ref Go.Proofs.Ytjlcjcgoaakniaa.Heap

abbrev GB (na : Option Addr) (n nc : Nat) (ra : Option Addr) (m rc : Nat) : List Value := [.slice na n nc, .slice ra m rc]
theorem heap_off {w : World} {h wb sb n b : Nat} {os : List Ob} {rest : List Int} {cs : List Value} {t : TypeId} (H : HeapAt w h wb sb n os rest) (hB : Blk w b cs t) (h1 : t ≠ 129) (h2 : t ≠ 3) (h3 : t ≠ 4) : ¬ (b = h ∨ b = wb ∨ b = sb) := by
  rintro (rfl | rfl | rfl)
  · exact h1 (hB.unique H.str).2
  · exact h2 (hB.unique H.wds).2
  · exact h3 (hB.unique H.sts).2
/-- The blocks that the document's words lie apart from. -/
def Holds (S : Nat → Prop) (w : World) (h wb sb mb : Nat) (vat : Value) (wr : World) : Prop := S h ∧ S wb ∧ S sb ∧ S mb ∧ S (w.heap.size + 1) ∧ (∀ g, vat.ownBlock = some g → S g) ∧ ∀ k, S k → k < wr.heap.size
/-- All that stands there: the heap, the document's heap in block mb, the nodes' addresses. -/
structure St (w : World) (gb : List Value) (h wb sb mb sz : Nat) (osh osr : List Ob) (vr vat : Value) (l : List Nat) (wr : World) : Prop where
  heap : ∃ rest, HeapAt wr h wb sb sz osh rest
  ref : ∃ S, RefAtS wr w.heap.size vr osr S ∧ Holds S w h wb sb mb vat wr
  mbk : Blk wr mb [.int .i64 (sz : Int), vr] 73
  ats : wr.ownsRow w.heap.size 3 1 vat l.length (nums (adr l))
  off : ∀ g, vat.ownBlock = some g → g ≠ wb
  gbk : Blk wr w.heap.size gb 67
  res : Blk wr (w.heap.size + 1) [.int .i64 0, .slice none 0 0] 73
  upd : Upd (fun _ => False) w wr
  lo : w.heap.size ≤ h ∧ w.heap.size ≤ wb ∧ w.heap.size ≤ sb ∧ w.heap.size + 1 < mb
section
variable {w wr : World} {gb : List Value} {h wb sb mb sz : Nat} {osh osr : List Ob} {vr vat : Value} {l : List Nat}
theorem St.quiet (s : St w gb h wb sb mb sz osh osr vr vat l wr) {w' : World} (u : Upd (fun _ => False) wr w') : St w gb h wb sb mb sz osh osr vr vat l w' := by
  obtain ⟨rest, H⟩ := s.heap
  obtain ⟨S, R, s1, s2, s3, s6, s7, s4, s5⟩ := s.ref
  exact ⟨⟨rest, H.quiet u⟩, ⟨S, R.quiet u, s1, s2, s3, s6, s7, s4, fun k hk => Nat.lt_of_lt_of_le (s5 k hk) u.size⟩, s.mbk.upd u (fun h => h), own_upd s.ats u (fun _ _ h => h), s.off, s.gbk.upd u (fun h => h), s.res.upd u (fun h => h), s.upd.trans u, s.lo⟩
/-- The heap has turned. -/
theorem St.turn (s : St w gb h wb sb mb sz osh osr vr vat l wr) {w' : World} {os' : List Ob} {rest' : List Int} (H' : HeapAt w' h wb sb sz os' rest') (u : Upd (fun k => k = h ∨ k = wb ∨ k = sb) wr w') : St w gb h wb sb mb sz os' osr vr vat l w' := by
  obtain ⟨rest, H⟩ := s.heap
  obtain ⟨S, R, s1, s2, s3, s6, s7, s4, s5⟩ := s.ref
  have hT : ∀ k, (k = h ∨ k = wb ∨ k = sb) → S k := by rintro k (rfl | rfl | rfl) <;> assumption
  have hvr : ∀ g, vr.ownBlock = some g → ¬ (g = h ∨ g = wb ∨ g = sb) := by
    obtain ⟨L, _, hL, _⟩ := R.rows
    rintro g hg (rfl | rfl | rfl)
    · exact own_offR hL H.str (by decide) hg
    · exact own_offR hL H.wds (by decide) hg
    · exact own_offR hL H.sts (by decide) hg
  have hat : ∀ g, vat.ownBlock = some g → ¬ (g = h ∨ g = wb ∨ g = sb) := by
    rintro g hg (rfl | rfl | rfl)
    · exact own_offR s.ats H.str (by decide) hg
    · exact s.off _ hg rfl
    · exact own_offR s.ats H.sts (by decide) hg
  exact ⟨⟨rest', H'⟩, ⟨S, R.upd u hT hvr, s1, s2, s3, s6, s7, s4, fun k hk => Nat.lt_of_lt_of_le (s5 k hk) u.size⟩, s.mbk.upd u (heap_off H s.mbk (by decide) (by decide) (by decide)), own_upd s.ats u hat, s.off, s.gbk.upd u (heap_off H s.gbk (by decide) (by decide) (by decide)), s.res.upd u (heap_off H s.res (by decide) (by decide) (by decide)), s.upd.next u (fun i hi h => by have := s.lo; omega), s.lo⟩
/-- The document's heap has turned, and is laid back. -/
theorem St.rturn (s : St w gb h wb sb mb sz osh osr vr vat l wr) {w' : World} {S : Nat → Prop} {os' : List Ob} {vr' : Value} (hS : Holds S w h wb sb mb vat wr) (R' : RefAtS w' wr.heap.size vr' os' S) (u : Upd (fun _ => False) wr w') :
    St w gb h wb sb mb sz osh os' vr' vat l ((w'.setCell ⟨mb, 0, none⟩ (.int .i64 (sz : Int))).setCell ⟨mb, 1, none⟩ vr') := by
  have s' := s.quiet u
  obtain ⟨rest, H⟩ := s'.heap
  obtain ⟨s1, s2, s3, s6, s7, s4, s5⟩ := hS
  have us : Upd (fun k => k = mb) w' ((w'.setCell ⟨mb, 0, none⟩ (.int .i64 (sz : Int))).setCell ⟨mb, 1, none⟩ vr') := ((Upd.refl (fun k => k = mb) w').setCell (p := ⟨mb, 0, none⟩) _ (fun _ => rfl)).setCell (p := ⟨mb, 1, none⟩) _ (fun _ => rfl)
  have hoff := heap_off H s'.mbk (by decide) (by decide) (by decide)
  have hvr : ∀ g, vr'.ownBlock = some g → ¬ (g = mb) := by
    obtain ⟨L, _, hL, _⟩ := R'.rows
    rintro g hg rfl
    exact own_offR hL s'.mbk (by decide) hg
  have hat : ∀ g, vat.ownBlock = some g → ¬ (g = mb) := by
    rintro g hg rfl
    exact own_offR s'.ats s'.mbk (by decide) hg
  have R2 : RefAtS w' w.heap.size vr' os' S := by
    obtain ⟨L, h1, h2, h3, h4⟩ := R'.rows
    exact ⟨⟨L, h1, own_base h2 s.upd.size, h3, h4⟩, R'.few, R'.good⟩
  refine ⟨⟨rest, H.upd us (fun e => hoff (.inl e.symm)) (fun e => hoff (.inr (.inl e.symm))) (fun e => hoff (.inr (.inr e.symm)))⟩, ⟨S, R2.upd us (fun k hk => by subst hk; exact s6) hvr, s1, s2, s3, s6, s7, s4, fun k hk => Nat.lt_of_lt_of_le (s5 k hk) (Nat.le_trans u.size us.size)⟩, ?_, own_upd s'.ats us hat, s'.off, s'.gbk.upd us (by have := s.lo; omega), s'.res.upd us (by have := s.lo; omega), s'.upd.next us (fun i hi h => by have := s.lo; omega), s.lo⟩
  exact (s'.mbk.set 0 _).set 1 _
/-- One address more. -/
theorem St.more (s : St w gb h wb sb mb sz osh osr vr vat l wr) {w' : World} {vat' : Value} {a : Nat} (o : w'.ownsRow w.heap.size 3 1 vat' (l.length + 1) (nums (adr l) ++ [.int .i64 (a : Int)])) (u : Upd (fun g => vat.ownBlock = some g) wr w') (hb : ∀ g, vat'.ownBlock = some g → vat.ownBlock = some g ∨ wr.heap.size ≤ g) :
    St w gb h wb sb mb sz osh osr vr vat' (l ++ [a]) w' := by
  obtain ⟨rest, H⟩ := s.heap
  obtain ⟨S, R, s1, s2, s3, s6, s7, s4, s5⟩ := s.ref
  have h1 : ¬ vat.ownBlock = some h := own_offR s.ats H.str (by decide)
  have h2 : ¬ vat.ownBlock = some wb := fun e => s.off _ e rfl
  have h3 : ¬ vat.ownBlock = some sb := own_offR s.ats H.sts (by decide)
  have hvr : ∀ g, vr.ownBlock = some g → ¬ vat.ownBlock = some g := by
    obtain ⟨L, _, hL, _⟩ := R.rows
    intro g hg hg'
    exact own_apartR hL s.ats (by decide) g hg hg'
  have hs := u.size
  have hwb := s5 _ s2
  refine ⟨⟨rest, H.upd u h1 h2 h3⟩, ⟨fun k => S k ∨ vat'.ownBlock = some k, ?_, .inl s1, .inl s2, .inl s3, .inl s6, .inl s7, fun g hg => .inr hg, fun k hk => ?_⟩, s.mbk.upd u (own_offR s.ats s.mbk (by decide)), ?_, fun g hg => ?_, s.gbk.upd u (own_offR s.ats s.gbk (by decide)), s.res.upd u (own_offR s.ats s.res (by decide)), s.upd.next u (fun i hi h => by have := (s.ats.lt i h).1; omega), s.lo⟩
  · exact ((R.grow (T := fun k => S k ∨ wr.heap.size ≤ k) (fun k h => h)).upd u (fun k hk => .inl (s4 k hk)) hvr).sub (fun k hk => hk.elim .inl (fun h => (hb k h).elim (fun h => .inl (s4 k h)) .inr))
  · rcases hk with hk | hk
    · exact Nat.lt_of_lt_of_le (s5 k hk) hs
    · exact (o.lt k hk).2
  · rw [List.length_append, List.length_singleton]
    simpa [adr, nums] using o
  · rcases hb g hg with h | h
    · exact s.off g h
    · omega
end
end Go.Proofs.Ytjlcjcgoaakniaa.Build

/- The calls of besomlaw11.Build, over what stands in memory. -/

namespace Go.Proofs.Ytjlcjcgoaakniaa.Build
open Go.RowKit Go.Proofs.Ytjlcjcgoaakniaa.Mem Go.Proofs.Ytjlcjcgoaakniaa.Obj Go.Proofs.Ytjlcjcgoaakniaa.Ref Go.Proofs.Ytjlcjcgoaakniaa.Heap
section
variable {w wr : World} {gb : List Value} {h wb sb mb sz : Nat} {osh osr : List Ob} {vr vat : Value} {l : List Nat}
theorem hplace_st (s : St w gb h wb sb mb sz osh osr vr vat l wr) (k n p : Nat) (hg : goodB k n p = true) (hroom : top osh + 1 + n ≤ sz) :
    Calls Try.prog 57 #[.pointer (some ⟨h, 0, none⟩), .agg #[.int .i64 (k : Int), .int .i64 (n : Int), .int .i64 (p : Int)]] wr fun e w' => e = .returned (.tuple #[.int .i64 (top osh : Int), .int .i64 0]) ∧
      St w gb h wb sb mb sz (osh ++ [⟨k, p, List.replicate n 0⟩]) osr vr vat l w' ∧ Upd (fun k => k = h ∨ k = wb ∨ k = sb) wr w' := by
  obtain ⟨rest, H⟩ := s.heap
  have hs := H.size
  exact (place_yes wr h wb sb sz osh rest H k n p hg (by omega)).mono fun e w' ⟨h1, h2, h3⟩ => ⟨h1, s.turn h2 h3, h3⟩
/-- What the document's Place, or Write, answers: laid back it stands. -/
def Back (w : World) (gb : List Value) (h wb sb mb sz : Nat) (osh os' : List Ob) (vat : Value) (l : List Nat) (b : Option Addr) (c : Nat) (w' : World) : Prop :=
  ∀ w1, Upd (fun _ => False) w' w1 → St w gb h wb sb mb sz osh os' (.slice b os'.length c) vat l ((w1.setCell ⟨mb, 0, none⟩ (.int .i64 (sz : Int))).setCell ⟨mb, 1, none⟩ (.slice b os'.length c))
theorem rplace_st (s : St w gb h wb sb mb sz osh osr vr vat l wr) (k n p : Nat) (hg : goodB k n p = true) (hroom : top osr + 1 + n ≤ sz) (hsz : sz ≤ 65536) :
    Calls Try.prog 58 #[hv sz vr, .agg #[.int .i64 (k : Int), .int .i64 (n : Int), .int .i64 (p : Int)]] wr fun e w' => ∃ b c, e = .returned (.tuple #[hv sz (.slice b (osr ++ [(⟨k, p, List.replicate n 0⟩ : Ob)]).length c), .int .i64 (top osr : Int), .int .i64 0]) ∧
      Back w gb h wb sb mb sz osh (osr ++ [⟨k, p, List.replicate n 0⟩]) vat l b c w' ∧ Upd (fun _ => False) wr w' := by
  obtain ⟨S, R, hS⟩ := s.ref
  refine (rplace_any wr _ sz vr osr S hS.2.2.2.2.2.2 R k n p hg hroom hsz).mono ?_
  rintro e w' ⟨v, rfl, R', hu⟩
  obtain ⟨b, c, rfl⟩ := R'.form
  exact ⟨b, c, rfl, fun w1 hu1 => s.rturn hS (R'.quiet hu1) (hu.trans hu1), hu⟩
theorem hwrite_st (s : St w gb h wb sb mb sz osh osr vr vat l wr) (a f : Nat) (o : Ob) (x : Int) (hx : -9223372036854775808 ≤ x ∧ x ≤ 9223372036854775807) (hf : find osh a = some o) (hfl : f < o.len) (hk : o.kind ≠ 15) (hp : f < o.ptrs → leads osh x = true) :
    Calls Try.prog 59 #[.pointer (some ⟨h, 0, none⟩), .int .i64 (a : Int), .int .i64 (f : Int), .int .i64 x] wr fun e w' => e = .returned (.int .i64 0) ∧ St w gb h wb sb mb sz (setWord osh a f x) osr vr vat l w' ∧ Upd (fun k => k = h ∨ k = wb ∨ k = sb) wr w' := by
  obtain ⟨rest, H⟩ := s.heap
  exact (write_yes wr h wb sb sz osh rest H a f o x hx hf hfl hk hp).mono fun e w' ⟨h1, h2, h3⟩ => ⟨h1, s.turn h2 (h3.mono (fun k _ hk => .inr (.inl hk))), h3.mono (fun k _ hk => .inr (.inl hk))⟩
theorem setWord_length {os : List Ob} : ∀ {a f : Nat} {x : Int}, (setWord os a f x).length = os.length := by
  induction os with
  | nil => intros; rfl
  | cons p os ih =>
    intro a f x
    unfold setWord
    split
    · rfl
    · split
      · rfl
      · rw [List.length_cons, ih, List.length_cons]
theorem rwrite_st (s : St w gb h wb sb mb sz osh osr vr vat l wr) (a f : Nat) (o : Ob) (x : Int) (hx : x ≤ 9223372036854775807) (hf : find osr a = some o) (hfl : f < o.len) (hk : o.kind ≠ 15) (hp : f < o.ptrs → leads osr x = true) :
    Calls Try.prog 61 #[hv sz vr, .int .i64 (a : Int), .int .i64 (f : Int), .int .i64 x] wr fun e w' => ∃ b c, e = .returned (.tuple #[hv sz (.slice b (setWord osr a f x).length c), .int .i64 0]) ∧ Back w gb h wb sb mb sz osh (setWord osr a f x) vat l b c w' ∧ Upd (fun _ => False) wr w' := by
  obtain ⟨S, R, hS⟩ := s.ref
  have key : Calls Try.prog 61 #[hv sz vr, .int .i64 (a : Int), .int .i64 (f : Int), .int .i64 x] wr (RWritten wr S sz (setWord osr a f x)) := by
    by_cases h : f < o.ptrs
    · exact rwrite_ptr wr _ sz vr osr S hS.2.2.2.2.2.2 R a f o x hx hf hfl hk h (hp h)
    · exact rwrite_word wr _ sz vr osr S hS.2.2.2.2.2.2 R a f o x hf hfl hk h
  refine key.mono ?_
  rintro e w' ⟨v, rfl, R', hu⟩
  obtain ⟨b, c, rfl⟩ := R'.form
  exact ⟨b, c, rfl, fun w1 hu1 => s.rturn hS (R'.quiet hu1) (hu.trans hu1), hu⟩
theorem place_still (w' : World) (v : Value) (l : List Nat) (hv : IntsAt w' v (adr l)) (hl : l.length ≤ 100000) (hb : ∀ a ∈ l, a ≤ 65536) (n : Nat) (hn : n < 256) :
    Calls Try.prog 60 #[v, .int .u8 (n : Int)] w' fun e w'' => e = .returned (.int .i64 (placeOf l n)) ∧ w'' = w' := (place_any w' v l hv hl hb n hn).mono fun _ _ h => ⟨h.1, h.2.symm⟩
/-- A block of another kind stays, when the document's heap is laid back. -/
theorem Blk.back {w1 : World} {b : Nat} {cs : List Value} {t : TypeId} (hB : Blk w1 b cs t) (hne : b ≠ mb) (v v' : Value) : Blk ((w1.setCell ⟨mb, 0, none⟩ v).setCell ⟨mb, 1, none⟩ v') b cs t := (hB.setOther v hne).setOther v' hne
end
end Go.Proofs.Ytjlcjcgoaakniaa.Build

/- What stands in memory while a told graph's roots are told. -/

namespace Go.Proofs.Ytjlcjcgoaakniaa.Mem
open Go.RowKit
theorem res_tmp2_cell {P : Program} {fn : Func} {p q r : Tmp} {ty : TypeId} (h : fn.results = #[.tmp q, .tmp r, .cell p ty]) (tmps : Array Value) (w : World) (b : Nat) (cs : List Value) (t : TypeId) (v u : Value) (d : TypeDesc)
    (hp : tmps.getD p undef = .pointer (some ⟨b, 0, none⟩)) (hq : tmps.getD q undef = v) (hr : tmps.getD r undef = u) (hc : Blk w b cs t) (hu : P.underlying ty = some d) (hd : d.isRow = true) (hi : (P.info? ty).map (·.size) = some cs.length) :
    (results fn tmps).run P w = .ok (.tuple #[v, u, .agg cs.toArray]) w := by
  have hp' : tmps[p]?.getD undef = .pointer (some ⟨b, 0, none⟩) := by simpa using hp
  have hq' : tmps[q]?.getD undef = v := by simpa using hq
  have hr' : tmps[r]?.getD undef = u := by simpa using hr
  simp [results, h, hp', hq', hr', asAddr, run_loadVar_mid w b 0 ty cs d hc.whole hu hd hi]
end Go.Proofs.Ytjlcjcgoaakniaa.Mem
namespace Go.Proofs.Ytjlcjcgoaakniaa.Build
open Go.RowKit Go.Proofs.Ytjlcjcgoaakniaa.Mem Go.Proofs.Ytjlcjcgoaakniaa.Obj Go.Proofs.Ytjlcjcgoaakniaa.Ref Go.Proofs.Ytjlcjcgoaakniaa.Heap

/-- All that stands there, with the roots. -/
structure Rt (w : World) (gb : List Value) (h wb sb mb sz : Nat) (os : List Ob) (vr vat : Value) (l : List Nat) (vrs : Value) (ks : List Int) (wr : World) : Prop where
  heap : ∃ rest, HeapAt wr h wb sb sz os rest
  ref : ∃ S, RefAtS wr w.heap.size vr os S ∧ S h ∧ S wb ∧ S sb ∧ S (w.heap.size + 1) ∧ ∀ g, vrs.ownBlock = some g → S g
  mbk : Blk wr mb [.int .i64 (sz : Int), vr] 73
  ats : wr.ownsRow w.heap.size 3 1 vat l.length (nums (adr l))
  gbk : Blk wr w.heap.size gb 67
  res : Blk wr (w.heap.size + 1) [.int .i64 0, .slice none 0 0] 73
  upd : Upd (fun _ => False) w wr
  rts : wr.ownsRow w.heap.size 3 1 vrs ks.length (nums ks)
  off : ∀ g, vrs.ownBlock = some g → g ≠ wb ∧ vat.ownBlock ≠ some g
section
variable {w wr : World} {gb : List Value} {h wb sb mb sz : Nat} {os : List Ob} {vr vat vrs : Value} {l : List Nat} {ks : List Int}
theorem St.root (s : St w gb h wb sb mb sz os os vr vat l wr) : Rt w gb h wb sb mb sz os vr vat l (.slice none 0 0) [] wr := by
  obtain ⟨S, R, s1, s2, s3, s6, s7, s4, s5⟩ := s.ref
  exact ⟨s.heap, ⟨S, R, s1, s2, s3, s7, fun g hg => by cases hg⟩, s.mbk, s.ats, s.gbk, s.res, s.upd, World.ownsRow_nil _ _ _ _, fun g hg => by cases hg⟩
theorem Rt.quiet (s : Rt w gb h wb sb mb sz os vr vat l vrs ks wr) {w' : World} (u : Upd (fun _ => False) wr w') : Rt w gb h wb sb mb sz os vr vat l vrs ks w' := by
  obtain ⟨rest, H⟩ := s.heap
  obtain ⟨S, R, s1, s2, s3, s4, s5⟩ := s.ref
  exact ⟨⟨rest, H.quiet u⟩, ⟨S, R.quiet u, s1, s2, s3, s4, s5⟩, s.mbk.upd u (fun h => h), own_upd s.ats u (fun _ _ h => h), s.gbk.upd u (fun h => h), s.res.upd u (fun h => h), s.upd.trans u, own_upd s.rts u (fun _ _ h => h), s.off⟩
theorem Rt.more (s : Rt w gb h wb sb mb sz os vr vat l vrs ks wr) {w' : World} {vrs' : Value} {x : Int} (o : w'.ownsRow w.heap.size 3 1 vrs' (ks.length + 1) (nums ks ++ [.int .i64 x])) (u : Upd (fun g => vrs.ownBlock = some g) wr w') (hb : ∀ g, vrs'.ownBlock = some g → vrs.ownBlock = some g ∨ wr.heap.size ≤ g) :
    Rt w gb h wb sb mb sz os vr vat l vrs' (ks ++ [x]) w' := by
  obtain ⟨rest, H⟩ := s.heap
  obtain ⟨S, R, s1, s2, s3, s7, s4⟩ := s.ref
  have h1 : ¬ vrs.ownBlock = some h := own_offR s.rts H.str (by decide)
  have h2 : ¬ vrs.ownBlock = some wb := fun e => (s.off _ e).1 rfl
  have h3 : ¬ vrs.ownBlock = some sb := own_offR s.rts H.sts (by decide)
  have hvr : ∀ g, vr.ownBlock = some g → ¬ vrs.ownBlock = some g := by
    obtain ⟨L, _, hL, _⟩ := R.rows
    intro g hg hg'
    exact own_apartR hL s.rts (by decide) g hg hg'
  have hwb := H.wds.lt
  refine ⟨⟨rest, H.upd u h1 h2 h3⟩, ⟨fun k => S k ∨ vrs'.ownBlock = some k, ?_, .inl s1, .inl s2, .inl s3, .inl s7, fun g hg => .inr hg⟩, s.mbk.upd u (own_offR s.rts s.mbk (by decide)), own_upd s.ats u (fun g hg hg' => (s.off g hg').2 hg), s.gbk.upd u (own_offR s.rts s.gbk (by decide)), s.res.upd u (own_offR s.rts s.res (by decide)), s.upd.next u (fun i hi h => by have := (s.rts.lt i h).1; omega), ?_, fun g hg => ?_⟩
  · exact ((R.grow (T := fun k => S k ∨ wr.heap.size ≤ k) (fun k h => h)).upd u (fun k hk => .inl (s4 k hk)) hvr).sub (fun k hk => hk.elim .inl (fun h => (hb k h).elim (fun h => .inl (s4 k h)) .inr))
  · rw [List.length_append, List.length_singleton]
    simpa [nums] using o
  · rcases hb g hg with h | h
    · exact s.off g h
    · refine ⟨by omega, fun e => ?_⟩
      have := (s.ats.lt g e).2
      omega
end
end Go.Proofs.Ytjlcjcgoaakniaa.Build
