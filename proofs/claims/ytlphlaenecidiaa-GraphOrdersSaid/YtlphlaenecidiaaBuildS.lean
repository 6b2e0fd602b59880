/- What stands in memory while a told graph is built. -/
import Derived.Test.YtlphlaenecidiaaBuild2
namespace Go.Proofs.Ytlphlaenecidiaa.Build
open Go.RowKit Go.Proofs.Ytlphlaenecidiaa.Mem Go.Proofs.Ytlphlaenecidiaa.Obj Go.Proofs.Ytlphlaenecidiaa.Ref Go.Proofs.Ytlphlaenecidiaa.Heap

abbrev GB (na : Option Addr) (n nc : Nat) (ra : Option Addr) (m rc : Nat) : List Value := [.slice na n nc, .slice ra m rc]
theorem heap_off {w : World} {h wb sb n b : Nat} {os : List Ob} {rest : List Int} {cs : List Value} {t : TypeId} (H : HeapAt w h wb sb n os rest) (hB : Blk w b cs t) (h1 : t ≠ 71) (h2 : t ≠ 3) (h3 : t ≠ 4) : ¬ (b = h ∨ b = wb ∨ b = sb) := by
  rintro (rfl | rfl | rfl)
  · exact h1 (hB.unique H.str).2
  · exact h2 (hB.unique H.wds).2
  · exact h3 (hB.unique H.sts).2
/-- The blocks that the document's words lie apart from. -/
def Holds (S : Nat → Prop) (w : World) (h wb sb mb : Nat) (vat : Value) (wr : World) : Prop := S h ∧ S wb ∧ S sb ∧ S mb ∧ S (w.heap.size + 1) ∧ (∀ g, vat.ownBlock = some g → S g) ∧ ∀ k, S k → k < wr.heap.size
/-- All that stands there: the heap, the document's heap in block mb, the nodes' addresses. -/
structure St (w : World) (gb : List Value) (h wb sb mb sz : Nat) (osh osr : List Ob) (vr vat : Value) (l : List Nat) (wr : World) : Prop where
  heap : ∃ rest, HeapAt wr h wb sb sz osh rest
  ref : ∃ S, RefAtS wr w.heap.size vr osr S ∧ Holds S w h wb sb mb vat wr
  mbk : Blk wr mb [.int .i64 (sz : Int), vr] 30
  ats : wr.ownsRow w.heap.size 3 1 vat l.length (nums (adr l))
  off : ∀ g, vat.ownBlock = some g → g ≠ wb
  gbk : Blk wr w.heap.size gb 46
  res : Blk wr (w.heap.size + 1) [.int .i64 0, .slice none 0 0] 30
  upd : Upd (fun _ => False) w wr
  lo : w.heap.size ≤ h ∧ w.heap.size ≤ wb ∧ w.heap.size ≤ sb ∧ w.heap.size + 1 < mb
section
variable {w wr : World} {gb : List Value} {h wb sb mb sz : Nat} {osh osr : List Ob} {vr vat : Value} {l : List Nat}
theorem St.quiet (s : St w gb h wb sb mb sz osh osr vr vat l wr) {w' : World} (u : Upd (fun _ => False) wr w') : St w gb h wb sb mb sz osh osr vr vat l w' := by
  obtain ⟨rest, H⟩ := s.heap
  obtain ⟨S, R, s1, s2, s3, s6, s7, s4, s5⟩ := s.ref
  exact ⟨⟨rest, H.quiet u⟩, ⟨S, R.quiet u, s1, s2, s3, s6, s7, s4, fun k hk => Nat.lt_of_lt_of_le (s5 k hk) u.size⟩, s.mbk.upd u (fun h => h), own_upd s.ats u (fun _ _ h => h), s.off, s.gbk.upd u (fun h => h), s.res.upd u (fun h => h), s.upd.trans u, s.lo⟩
/-- The heap has turned. -/
theorem St.turn (s : St w gb h wb sb mb sz osh osr vr vat l wr) {w' : World} {os' : List Ob} {rest' : List Int} (H' : HeapAt w' h wb sb sz os' rest') (u : Upd (fun k => k = h ∨ k = wb ∨ k = sb) wr w') : St w gb h wb sb mb sz os' osr vr vat l w' := by
  obtain ⟨rest, H⟩ := s.heap
  obtain ⟨S, R, s1, s2, s3, s6, s7, s4, s5⟩ := s.ref
  have hT : ∀ k, (k = h ∨ k = wb ∨ k = sb) → S k := by rintro k (rfl | rfl | rfl) <;> assumption
  have hvr : ∀ g, vr.ownBlock = some g → ¬ (g = h ∨ g = wb ∨ g = sb) := by
    obtain ⟨L, _, hL, _⟩ := R.rows
    rintro g hg (rfl | rfl | rfl)
    · exact own_offR hL H.str (by decide) hg
    · exact own_offR hL H.wds (by decide) hg
    · exact own_offR hL H.sts (by decide) hg
  have hat : ∀ g, vat.ownBlock = some g → ¬ (g = h ∨ g = wb ∨ g = sb) := by
    rintro g hg (rfl | rfl | rfl)
    · exact own_offR s.ats H.str (by decide) hg
    · exact s.off _ hg rfl
    · exact own_offR s.ats H.sts (by decide) hg
  exact ⟨⟨rest', H'⟩, ⟨S, R.upd u hT hvr, s1, s2, s3, s6, s7, s4, fun k hk => Nat.lt_of_lt_of_le (s5 k hk) u.size⟩, s.mbk.upd u (heap_off H s.mbk (by decide) (by decide) (by decide)), own_upd s.ats u hat, s.off, s.gbk.upd u (heap_off H s.gbk (by decide) (by decide) (by decide)), s.res.upd u (heap_off H s.res (by decide) (by decide) (by decide)), s.upd.next u (fun i hi h => by have := s.lo; omega), s.lo⟩
/-- The document's heap has turned, and is laid back. -/
theorem St.rturn (s : St w gb h wb sb mb sz osh osr vr vat l wr) {w' : World} {S : Nat → Prop} {os' : List Ob} {vr' : Value} (hS : Holds S w h wb sb mb vat wr) (R' : RefAtS w' wr.heap.size vr' os' S) (u : Upd (fun _ => False) wr w') :
    St w gb h wb sb mb sz osh os' vr' vat l ((w'.setCell ⟨mb, 0, none⟩ (.int .i64 (sz : Int))).setCell ⟨mb, 1, none⟩ vr') := by
  have s' := s.quiet u
  obtain ⟨rest, H⟩ := s'.heap
  obtain ⟨s1, s2, s3, s6, s7, s4, s5⟩ := hS
  have us : Upd (fun k => k = mb) w' ((w'.setCell ⟨mb, 0, none⟩ (.int .i64 (sz : Int))).setCell ⟨mb, 1, none⟩ vr') := ((Upd.refl (fun k => k = mb) w').setCell (p := ⟨mb, 0, none⟩) _ (fun _ => rfl)).setCell (p := ⟨mb, 1, none⟩) _ (fun _ => rfl)
  have hoff := heap_off H s'.mbk (by decide) (by decide) (by decide)
  have hvr : ∀ g, vr'.ownBlock = some g → ¬ (g = mb) := by
    obtain ⟨L, _, hL, _⟩ := R'.rows
    rintro g hg rfl
    exact own_offR hL s'.mbk (by decide) hg
  have hat : ∀ g, vat.ownBlock = some g → ¬ (g = mb) := by
    rintro g hg rfl
    exact own_offR s'.ats s'.mbk (by decide) hg
  have R2 : RefAtS w' w.heap.size vr' os' S := by
    obtain ⟨L, h1, h2, h3, h4⟩ := R'.rows
    exact ⟨⟨L, h1, own_base h2 s.upd.size, h3, h4⟩, R'.few, R'.good⟩
  refine ⟨⟨rest, H.upd us (fun e => hoff (.inl e.symm)) (fun e => hoff (.inr (.inl e.symm))) (fun e => hoff (.inr (.inr e.symm)))⟩, ⟨S, R2.upd us (fun k hk => by subst hk; exact s6) hvr, s1, s2, s3, s6, s7, s4, fun k hk => Nat.lt_of_lt_of_le (s5 k hk) (Nat.le_trans u.size us.size)⟩, ?_, own_upd s'.ats us hat, s'.off, s'.gbk.upd us (by have := s.lo; omega), s'.res.upd us (by have := s.lo; omega), s'.upd.next us (fun i hi h => by have := s.lo; omega), s.lo⟩
  exact (s'.mbk.set 0 _).set 1 _
/-- One address more. -/
theorem St.more (s : St w gb h wb sb mb sz osh osr vr vat l wr) {w' : World} {vat' : Value} {a : Nat} (o : w'.ownsRow w.heap.size 3 1 vat' (l.length + 1) (nums (adr l) ++ [.int .i64 (a : Int)])) (u : Upd (fun g => vat.ownBlock = some g) wr w') (hb : ∀ g, vat'.ownBlock = some g → vat.ownBlock = some g ∨ wr.heap.size ≤ g) :
    St w gb h wb sb mb sz osh osr vr vat' (l ++ [a]) w' := by
  obtain ⟨rest, H⟩ := s.heap
  obtain ⟨S, R, s1, s2, s3, s6, s7, s4, s5⟩ := s.ref
  have h1 : ¬ vat.ownBlock = some h := own_offR s.ats H.str (by decide)
  have h2 : ¬ vat.ownBlock = some wb := fun e => s.off _ e rfl
  have h3 : ¬ vat.ownBlock = some sb := own_offR s.ats H.sts (by decide)
  have hvr : ∀ g, vr.ownBlock = some g → ¬ vat.ownBlock = some g := by
    obtain ⟨L, _, hL, _⟩ := R.rows
    intro g hg hg'
    exact own_apartR hL s.ats (by decide) g hg hg'
  have hs := u.size
  have hwb := s5 _ s2
  refine ⟨⟨rest, H.upd u h1 h2 h3⟩, ⟨fun k => S k ∨ vat'.ownBlock = some k, ?_, .inl s1, .inl s2, .inl s3, .inl s6, .inl s7, fun g hg => .inr hg, fun k hk => ?_⟩, s.mbk.upd u (own_offR s.ats s.mbk (by decide)), ?_, fun g hg => ?_, s.gbk.upd u (own_offR s.ats s.gbk (by decide)), s.res.upd u (own_offR s.ats s.res (by decide)), s.upd.next u (fun i hi h => by have := (s.ats.lt i h).1; omega), s.lo⟩
  · exact ((R.grow (T := fun k => S k ∨ wr.heap.size ≤ k) (fun k h => h)).upd u (fun k hk => .inl (s4 k hk)) hvr).sub (fun k hk => hk.elim .inl (fun h => (hb k h).elim (fun h => .inl (s4 k h)) .inr))
  · rcases hk with hk | hk
    · exact Nat.lt_of_lt_of_le (s5 k hk) hs
    · exact (o.lt k hk).2
  · rw [List.length_append, List.length_singleton]
    simpa [adr, nums] using o
  · rcases hb g hg with h | h
    · exact s.off g h
    · omega
end
end Go.Proofs.Ytlphlaenecidiaa.Build
