/- The calls of besomlaw11.Build, over what stands in memory. -/
import Derived.Test.YtlphlaenecidiaaBuildS
namespace Go.Proofs.Ytlphlaenecidiaa.Build
open Go.RowKit Go.Proofs.Ytlphlaenecidiaa.Mem Go.Proofs.Ytlphlaenecidiaa.Obj Go.Proofs.Ytlphlaenecidiaa.Ref Go.Proofs.Ytlphlaenecidiaa.Heap
section
variable {w wr : World} {gb : List Value} {h wb sb mb sz : Nat} {osh osr : List Ob} {vr vat : Value} {l : List Nat}
theorem hplace_st (s : St w gb h wb sb mb sz osh osr vr vat l wr) (k n p : Nat) (hg : goodB k n p = true) (hroom : top osh + 1 + n ≤ sz) :
    Calls Try.prog 32 #[.pointer (some ⟨h, 0, none⟩), .agg #[.int .i64 (k : Int), .int .i64 (n : Int), .int .i64 (p : Int)]] wr fun e w' => e = .returned (.tuple #[.int .i64 (top osh : Int), .int .i64 0]) ∧
      St w gb h wb sb mb sz (osh ++ [⟨k, p, List.replicate n 0⟩]) osr vr vat l w' ∧ Upd (fun k => k = h ∨ k = wb ∨ k = sb) wr w' := by
  obtain ⟨rest, H⟩ := s.heap
  have hs := H.size
  exact (place_yes wr h wb sb sz osh rest H k n p hg (by omega)).mono fun e w' ⟨h1, h2, h3⟩ => ⟨h1, s.turn h2 h3, h3⟩
/-- What the document's Place, or Write, answers: laid back it stands. -/
def Back (w : World) (gb : List Value) (h wb sb mb sz : Nat) (osh os' : List Ob) (vat : Value) (l : List Nat) (b : Option Addr) (c : Nat) (w' : World) : Prop :=
  ∀ w1, Upd (fun _ => False) w' w1 → St w gb h wb sb mb sz osh os' (.slice b os'.length c) vat l ((w1.setCell ⟨mb, 0, none⟩ (.int .i64 (sz : Int))).setCell ⟨mb, 1, none⟩ (.slice b os'.length c))
theorem rplace_st (s : St w gb h wb sb mb sz osh osr vr vat l wr) (k n p : Nat) (hg : goodB k n p = true) (hroom : top osr + 1 + n ≤ sz) (hsz : sz ≤ 65536) :
    Calls Try.prog 33 #[hv sz vr, .agg #[.int .i64 (k : Int), .int .i64 (n : Int), .int .i64 (p : Int)]] wr fun e w' => ∃ b c, e = .returned (.tuple #[hv sz (.slice b (osr ++ [(⟨k, p, List.replicate n 0⟩ : Ob)]).length c), .int .i64 (top osr : Int), .int .i64 0]) ∧
      Back w gb h wb sb mb sz osh (osr ++ [⟨k, p, List.replicate n 0⟩]) vat l b c w' ∧ Upd (fun _ => False) wr w' := by
  obtain ⟨S, R, hS⟩ := s.ref
  refine (rplace_any wr _ sz vr osr S hS.2.2.2.2.2.2 R k n p hg hroom hsz).mono ?_
  rintro e w' ⟨v, rfl, R', hu⟩
  obtain ⟨b, c, rfl⟩ := R'.form
  exact ⟨b, c, rfl, fun w1 hu1 => s.rturn hS (R'.quiet hu1) (hu.trans hu1), hu⟩
theorem hwrite_st (s : St w gb h wb sb mb sz osh osr vr vat l wr) (a f : Nat) (o : Ob) (x : Int) (hx : -9223372036854775808 ≤ x ∧ x ≤ 9223372036854775807) (hf : find osh a = some o) (hfl : f < o.len) (hk : o.kind ≠ 15) (hp : f < o.ptrs → leads osh x = true) :
    Calls Try.prog 34 #[.pointer (some ⟨h, 0, none⟩), .int .i64 (a : Int), .int .i64 (f : Int), .int .i64 x] wr fun e w' => e = .returned (.int .i64 0) ∧ St w gb h wb sb mb sz (setWord osh a f x) osr vr vat l w' ∧ Upd (fun k => k = h ∨ k = wb ∨ k = sb) wr w' := by
  obtain ⟨rest, H⟩ := s.heap
  exact (write_yes wr h wb sb sz osh rest H a f o x hx hf hfl hk hp).mono fun e w' ⟨h1, h2, h3⟩ => ⟨h1, s.turn h2 (h3.mono (fun k _ hk => .inr (.inl hk))), h3.mono (fun k _ hk => .inr (.inl hk))⟩
theorem setWord_length {os : List Ob} : ∀ {a f : Nat} {x : Int}, (setWord os a f x).length = os.length := by
  induction os with
  | nil => intros; rfl
  | cons p os ih =>
    intro a f x
    unfold setWord
    split
    · rfl
    · split
      · rfl
      · rw [List.length_cons, ih, List.length_cons]
theorem rwrite_st (s : St w gb h wb sb mb sz osh osr vr vat l wr) (a f : Nat) (o : Ob) (x : Int) (hx : x ≤ 9223372036854775807) (hf : find osr a = some o) (hfl : f < o.len) (hk : o.kind ≠ 15) (hp : f < o.ptrs → leads osr x = true) :
    Calls Try.prog 36 #[hv sz vr, .int .i64 (a : Int), .int .i64 (f : Int), .int .i64 x] wr fun e w' => ∃ b c, e = .returned (.tuple #[hv sz (.slice b (setWord osr a f x).length c), .int .i64 0]) ∧ Back w gb h wb sb mb sz osh (setWord osr a f x) vat l b c w' ∧ Upd (fun _ => False) wr w' := by
  obtain ⟨S, R, hS⟩ := s.ref
  have key : Calls Try.prog 36 #[hv sz vr, .int .i64 (a : Int), .int .i64 (f : Int), .int .i64 x] wr (RWritten wr S sz (setWord osr a f x)) := by
    by_cases h : f < o.ptrs
    · exact rwrite_ptr wr _ sz vr osr S hS.2.2.2.2.2.2 R a f o x hx hf hfl hk h (hp h)
    · exact rwrite_word wr _ sz vr osr S hS.2.2.2.2.2.2 R a f o x hf hfl hk h
  refine key.mono ?_
  rintro e w' ⟨v, rfl, R', hu⟩
  obtain ⟨b, c, rfl⟩ := R'.form
  exact ⟨b, c, rfl, fun w1 hu1 => s.rturn hS (R'.quiet hu1) (hu.trans hu1), hu⟩
theorem place_still (w' : World) (v : Value) (l : List Nat) (hv : IntsAt w' v (adr l)) (hl : l.length ≤ 100000) (hb : ∀ a ∈ l, a ≤ 65536) (n : Nat) (hn : n < 256) :
    Calls Try.prog 35 #[v, .int .u8 (n : Int)] w' fun e w'' => e = .returned (.int .i64 (placeOf l n)) ∧ w'' = w' := (place_any w' v l hv hl hb n hn).mono fun _ _ h => ⟨h.1, h.2.symm⟩
/-- A block of another kind stays, when the document's heap is laid back. -/
theorem Blk.back {w1 : World} {b : Nat} {cs : List Value} {t : TypeId} (hB : Blk w1 b cs t) (hne : b ≠ mb) (v v' : Value) : Blk ((w1.setCell ⟨mb, 0, none⟩ v).setCell ⟨mb, 1, none⟩ v') b cs t := (hB.setOther v hne).setOther v' hne
end
end Go.Proofs.Ytlphlaenecidiaa.Build
