/- What stands in memory while a told graph's roots are told. -/
import Derived.Test.YtlphlaenecidiaaBuildC
namespace Go.Proofs.Ytlphlaenecidiaa.Mem
open Go.RowKit
theorem res_tmp2_cell {P : Program} {fn : Func} {p q r : Tmp} {ty : TypeId} (h : fn.results = #[.tmp q, .tmp r, .cell p ty]) (tmps : Array Value) (w : World) (b : Nat) (cs : List Value) (t : TypeId) (v u : Value) (d : TypeDesc)
    (hp : tmps.getD p undef = .pointer (some ⟨b, 0, none⟩)) (hq : tmps.getD q undef = v) (hr : tmps.getD r undef = u) (hc : Blk w b cs t) (hu : P.underlying ty = some d) (hd : d.isRow = true) (hi : (P.info? ty).map (·.size) = some cs.length) :
    (results fn tmps).run P w = .ok (.tuple #[v, u, .agg cs.toArray]) w := by
  have hp' : tmps[p]?.getD undef = .pointer (some ⟨b, 0, none⟩) := by simpa using hp
  have hq' : tmps[q]?.getD undef = v := by simpa using hq
  have hr' : tmps[r]?.getD undef = u := by simpa using hr
  simp [results, h, hp', hq', hr', asAddr, run_loadVar_mid w b 0 ty cs d hc.whole hu hd hi]
end Go.Proofs.Ytlphlaenecidiaa.Mem
namespace Go.Proofs.Ytlphlaenecidiaa.Build
open Go.RowKit Go.Proofs.Ytlphlaenecidiaa.Mem Go.Proofs.Ytlphlaenecidiaa.Obj Go.Proofs.Ytlphlaenecidiaa.Ref Go.Proofs.Ytlphlaenecidiaa.Heap

/-- All that stands there, with the roots. -/
structure Rt (w : World) (gb : List Value) (h wb sb mb sz : Nat) (os : List Ob) (vr vat : Value) (l : List Nat) (vrs : Value) (ks : List Int) (wr : World) : Prop where
  heap : ∃ rest, HeapAt wr h wb sb sz os rest
  ref : ∃ S, RefAtS wr w.heap.size vr os S ∧ S h ∧ S wb ∧ S sb ∧ S (w.heap.size + 1) ∧ ∀ g, vrs.ownBlock = some g → S g
  mbk : Blk wr mb [.int .i64 (sz : Int), vr] 30
  ats : wr.ownsRow w.heap.size 3 1 vat l.length (nums (adr l))
  gbk : Blk wr w.heap.size gb 46
  res : Blk wr (w.heap.size + 1) [.int .i64 0, .slice none 0 0] 30
  upd : Upd (fun _ => False) w wr
  rts : wr.ownsRow w.heap.size 3 1 vrs ks.length (nums ks)
  off : ∀ g, vrs.ownBlock = some g → g ≠ wb ∧ vat.ownBlock ≠ some g
section
variable {w wr : World} {gb : List Value} {h wb sb mb sz : Nat} {os : List Ob} {vr vat vrs : Value} {l : List Nat} {ks : List Int}
theorem St.root (s : St w gb h wb sb mb sz os os vr vat l wr) : Rt w gb h wb sb mb sz os vr vat l (.slice none 0 0) [] wr := by
  obtain ⟨S, R, s1, s2, s3, s6, s7, s4, s5⟩ := s.ref
  exact ⟨s.heap, ⟨S, R, s1, s2, s3, s7, fun g hg => by cases hg⟩, s.mbk, s.ats, s.gbk, s.res, s.upd, World.ownsRow_nil _ _ _ _, fun g hg => by cases hg⟩
theorem Rt.quiet (s : Rt w gb h wb sb mb sz os vr vat l vrs ks wr) {w' : World} (u : Upd (fun _ => False) wr w') : Rt w gb h wb sb mb sz os vr vat l vrs ks w' := by
  obtain ⟨rest, H⟩ := s.heap
  obtain ⟨S, R, s1, s2, s3, s4, s5⟩ := s.ref
  exact ⟨⟨rest, H.quiet u⟩, ⟨S, R.quiet u, s1, s2, s3, s4, s5⟩, s.mbk.upd u (fun h => h), own_upd s.ats u (fun _ _ h => h), s.gbk.upd u (fun h => h), s.res.upd u (fun h => h), s.upd.trans u, own_upd s.rts u (fun _ _ h => h), s.off⟩
theorem Rt.more (s : Rt w gb h wb sb mb sz os vr vat l vrs ks wr) {w' : World} {vrs' : Value} {x : Int} (o : w'.ownsRow w.heap.size 3 1 vrs' (ks.length + 1) (nums ks ++ [.int .i64 x])) (u : Upd (fun g => vrs.ownBlock = some g) wr w') (hb : ∀ g, vrs'.ownBlock = some g → vrs.ownBlock = some g ∨ wr.heap.size ≤ g) :
    Rt w gb h wb sb mb sz os vr vat l vrs' (ks ++ [x]) w' := by
  obtain ⟨rest, H⟩ := s.heap
  obtain ⟨S, R, s1, s2, s3, s7, s4⟩ := s.ref
  have h1 : ¬ vrs.ownBlock = some h := own_offR s.rts H.str (by decide)
  have h2 : ¬ vrs.ownBlock = some wb := fun e => (s.off _ e).1 rfl
  have h3 : ¬ vrs.ownBlock = some sb := own_offR s.rts H.sts (by decide)
  have hvr : ∀ g, vr.ownBlock = some g → ¬ vrs.ownBlock = some g := by
    obtain ⟨L, _, hL, _⟩ := R.rows
    intro g hg hg'
    exact own_apartR hL s.rts (by decide) g hg hg'
  have hwb := H.wds.lt
  refine ⟨⟨rest, H.upd u h1 h2 h3⟩, ⟨fun k => S k ∨ vrs'.ownBlock = some k, ?_, .inl s1, .inl s2, .inl s3, .inl s7, fun g hg => .inr hg⟩, s.mbk.upd u (own_offR s.rts s.mbk (by decide)), own_upd s.ats u (fun g hg hg' => (s.off g hg').2 hg), s.gbk.upd u (own_offR s.rts s.gbk (by decide)), s.res.upd u (own_offR s.rts s.res (by decide)), s.upd.next u (fun i hi h => by have := (s.rts.lt i h).1; omega), ?_, fun g hg => ?_⟩
  · exact ((R.grow (T := fun k => S k ∨ wr.heap.size ≤ k) (fun k h => h)).upd u (fun k hk => .inl (s4 k hk)) hvr).sub (fun k hk => hk.elim .inl (fun h => (hb k h).elim (fun h => .inl (s4 k h)) .inr))
  · rw [List.length_append, List.length_singleton]
    simpa [nums] using o
  · rcases hb g hg with h | h
    · exact s.off g h
    · refine ⟨by omega, fun e => ?_⟩
      have := (s.ats.lt g e).2
      omega
end
end Go.Proofs.Ytlphlaenecidiaa.Build
