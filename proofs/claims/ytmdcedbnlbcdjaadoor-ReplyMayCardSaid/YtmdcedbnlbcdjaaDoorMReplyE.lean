/- An answer more is told: the closure in Put. -/
import Derived.Test.YtmdcedbnlbcdjaaDoorMReplyD
import Derived.Test.YtmdcedbnlbcdjaaDoorMReplyP2
namespace Go.Proofs.YtmdcedbnlbcdjaaDoor
open Go Go.RowKit Go.My Go.Shelf

/-- Cells in a row in a block of a type, below n. -/
def RdT (n : Nat) (w : World) (t : TypeId) (A : Option Addr) (vs : List Value) : Prop :=
  vs ≠ [] → ∃ b o cs fr, A = some ⟨b, o, none⟩ ∧ b < n ∧ w.heap[b]? = some (.cells cs t fr) ∧ ∀ j u, vs[j]? = some u → cs[o + j]? = some u
theorem RdT.rd {n : Nat} {w : World} {t : TypeId} {A : Option Addr} {vs : List Value} (h : RdT n w t A vs) : Rd n w A vs := fun hne => by
  obtain ⟨b, o, cs, fr, rfl, hlt, hb, hc⟩ := h hne
  exact ⟨b, o, rfl, hlt, fun j u hu => by rw [bcell hb]; exact hc j u hu⟩
/-- It stays where its block is not turned. -/
theorem RdT.keep {n : Nat} {w w' : World} {t : TypeId} {A : Option Addr} {vs : List Value} (h : RdT n w t A vs) (hk : ∀ b cs fr, b < n → w.heap[b]? = some (.cells cs t fr) → w'.heap[b]? = some (.cells cs t fr)) : RdT n w' t A vs := fun hne => by
  obtain ⟨b, o, cs, fr, e, hlt, hb, hc⟩ := h hne
  exact ⟨b, o, cs, fr, e, hlt, hk b cs fr hlt hb, hc⟩
theorem RdT.mono {n m : Nat} {w : World} {t : TypeId} {A : Option Addr} {vs : List Value} (h : RdT n w t A vs) (hm : n ≤ m) : RdT m w t A vs := fun hne => by
  obtain ⟨b, o, cs, fr, e, hlt, r⟩ := h hne
  exact ⟨b, o, cs, fr, e, Nat.lt_of_lt_of_le hlt hm, r⟩
theorem RdT.owned {w : World} {base : Nat} {t : TypeId} {size : Nat} {A : Option Addr} {n c : Nat} {vs : List Value} (h : w.ownsRow base t size (.slice A n c) n vs) : RdT w.heap.size w t A vs := fun hne => by
  rcases h.2 with ⟨h1, h2⟩ | ⟨g, cap, cur, h1, hb, hh, hn, hm, hs, ht⟩
  · subst h2
    have := h.1
    simp at this
    exact absurd this hne
  · injection h1 with h1 h2 h3
    subst h1
    refine ⟨g, 0, cur, (0, 0), rfl, blt hh, hh, fun j u hu => ?_⟩
    rw [← ht, List.getElem?_take] at hu
    split at hu
    · simpa using hu
    · cases hu

theorem RdT.drop {n : Nat} {w : World} {t : TypeId} {A : Option Addr} {vs : List Value} (h : RdT n w t A vs) (c k : Nat) (hc : vs.length ≤ c) : RdT n w t (cutA A c k) (vs.drop k) := fun hne => by
  have h0 : vs ≠ [] := by intro e; rw [e] at hne; simp at hne
  have hk : k < vs.length := by
    rcases Nat.lt_or_ge k vs.length with h1 | h1
    · exact h1
    · exact absurd (List.drop_eq_nil_of_le h1) hne
  obtain ⟨b, o, cs, fr, rfl, hlt, hb, hcell⟩ := h h0
  refine ⟨b, o + k, cs, fr, ?_, hlt, hb, fun j u hu => ?_⟩
  · unfold cutA
    rw [if_neg (by omega)]
    simp only [Option.map_some]
    congr 1
    unfold Addr.add
    split <;> simp_all
  · rw [List.getElem?_drop] at hu
    rw [Nat.add_assoc]
    exact hcell _ _ hu
/-- Blocks of a type, below n, are as they were. -/
def KeepT (n : Nat) (t : TypeId) (w w' : World) : Prop := ∀ b cs fr, b < n → w.heap[b]? = some (.cells cs t fr) → w'.heap[b]? = some (.cells cs t fr)
theorem KeepT.of_below {n m : Nat} {t : TypeId} {w w' : World} (h : Below m w w') (hn : n ≤ m) : KeepT n t w w' := fun b _ _ hb hk => (h.block b (by omega)).trans hk

/-- One answer, in five cells. -/
def RepAt (n : Nat) (w : World) (cs : List Value) (r : Rep) : Prop :=
  ∃ A c, cs = (repC r.code A r.lines.length c r.more).toList ∧ r.lines.length ≤ c ∧ RdT n w 9 A (strs r.lines)
/-- A slice of answers, of the call's own from base on; their lines lie below n. -/
def Reps (base n : Nat) (w : World) (v : Value) (rs : List Rep) : Prop :=
  ∃ css : List (List Value), w.ownsRow base 33 5 v css.length css.flatten ∧ css.length = rs.length ∧ ∀ (i : Nat) (cs : List Value) (r : Rep), css[i]? = some cs → rs[i]? = some r → RepAt n w cs r
theorem infoRep : (Tryd.prog.info? 33).map (fun i => (i.zero, i.size, i.bytes)) = some (some (.agg #[.int .i64 0, .slice none 0 0, .int .i64 0, .int .i64 0, .int .i64 0]), 5, 56) := by kernel_rfl

/-- All below n but two blocks is as it was. -/
structure But2 (n bl bu : Nat) (w w' : World) : Prop where
  os : w'.os = w.os
  tape : w'.tape = w.tape
  output : w'.output = w.output
  size : w.heap.size ≤ w'.heap.size
  block : ∀ k, k < n → k ≠ bl → k ≠ bu → w'.heap[k]? = w.heap[k]?

set_option maxRecDepth 10000 in
set_option maxHeartbeats 1000000 in
theorem tell_any (code : Int) (A : Option Addr) (n c : Nat) (m : Int × Int × Int) (at_ : Int) (bl bu : Nat) (lv : Value) (u0 : Int) (base : Nat) (css : List (List Value)) (w : World)
    (hl : w.heap[bl]? = some (.cells #[lv] 24 (0, 0))) (hu : w.heap[bu]? = some (.cells #[.int .i64 u0] 3 (0, 0))) (hne : bl ≠ bu)
    (ho : w.ownsRow base 33 5 lv css.length css.flatten) (hbl : bl < base) (hbu : bu < base) (hbase : base ≤ w.heap.size) (hcl : css.length ≤ 2000000) :
    Calls Tryd.prog 18 #[.agg (repC code A n c m), .int .i64 at_, .pointer (some ⟨bl, 0, none⟩), .pointer (some ⟨bu, 0, none⟩)] w fun e w' =>
      e = .returned (.tuple #[]) ∧ ∃ lv', w'.heap[bl]? = some (.cells #[lv'] 24 (0, 0)) ∧ w'.heap[bu]? = some (.cells #[.int .i64 at_] 3 (0, 0)) ∧
        w'.ownsRow base 33 5 lv' (css.length + 1) (css.flatten ++ (repC code A n c m).toList) ∧ w.heap.size ≤ w'.heap.size ∧ w'.os = w.os ∧ w'.tape = w.tape ∧ w'.output = w.output ∧
        ∀ k, k < w.heap.size → k ≠ bl → k ≠ bu → some k ≠ lv.ownBlock → w'.heap[k]? = w.heap[k]? := by
  obtain ⟨i0, hi, hz0, hz1, hz2⟩ := info_parts infoRep
  have hlc := bcell (bold hl (.cells (repC code A n c m) 33)) 0
  have huc := bcell (bold hu (.cells (repC code A n c m) 33)) 0
  have hlt1 := blt hl
  have hlt2 := blt hu
  have HL := Lib.hid hl
  have HU := Lib.hid hu
  clear hl hu
  simp only [List.getElem?_toArray, List.getElem?_cons_zero] at hlc huc
  unfold repC at *
  go_enter Tryd.func18, Tryd.ntmps18
  go_wp2_with (at_builtin; go_must (refine wpList_append_own _ rfl _ _ 24 rfl base 33 i0 _ 5 56 Tryd.underlying24 hi hz0 hz1 hz2 rfl (by decide) lv css.length css.flatten rfl ((ho.alloc _).alloc _) ⟨w.heap.size + 1, 0, none⟩ 1 1 [.int .i64 code, .slice A n c, .int .i64 m.1, .int .i64 m.2.1, .int .i64 m.2.2] rfl rfl (bnews (cs := #[.int .i64 code, .slice A n c, .int .i64 m.1, .int .i64 m.2.1, .int .i64 m.2.2]) (t := 33) (fr := (0, 0)) (by simpa using bnew (w.alloc _) _)) (by simp [Value.oneCell']) (by simp only [maxLen]; omega) (by omega) (by simp; omega) ?_); intro v' w1 hown' hgrow _; obtain ⟨g', cap', rfl, hcap⟩ := own_succ hown'; have k1 := own_blk (bold (bold HL.out _) _) ((ho.alloc _).alloc _) hgrow hbl; have k2 := own_blk (bold (bold HU.out _) _) ((ho.alloc _).alloc _) hgrow hbu; have c1 := bcell k1 0; have c2 := bcell k2 0; have f1 := bfree k1 0; have f2 := bfree k2 0; have K1 := Lib.hid k1; have K2 := Lib.hid k2; clear k1 k2; simp only [List.getElem?_toArray, List.getElem?_cons_zero] at c1 c2)
  go_end0
  refine ⟨rfl, .slice (some ⟨g', 0, none⟩) (css.length + 1) cap', by simpa using bother (bstore K1.out 0 _) hne 0 _, by simpa using bstore (bother K2.out (Ne.symm hne) 0 _) 0 (.int .i64 at_), own_far (own_far hown' hbl _ _) hbu _ _, ?_, hgrow.os, hgrow.tape, hgrow.output, ?_⟩
  · rw [set_size, set_size]; have := hgrow.size; simp at this; omega
  · intro k hk h1 h2 h3
    rw [Below.heap_setCell _ _ _ _ (show k ≠ bu from h2), Below.heap_setCell _ _ _ _ (show k ≠ bl from h1), hgrow.block k (by simp; omega) h3, Below.heap_alloc _ _ _ (by simp; omega), Below.heap_alloc _ _ _ hk]
end Go.Proofs.YtmdcedbnlbcdjaaDoor
