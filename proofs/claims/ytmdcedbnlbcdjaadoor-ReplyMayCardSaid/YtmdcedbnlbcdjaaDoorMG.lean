/- What the package-level variables hold, and the library's contracts over it. -/
import Derived.Test.YtmdcedbnlbcdjaaDoorShelf
import Derived.Test.YtmdcedbnlbcdjaaDoorMWords
import Derived.Lib.Itoa
import Derived.Lib.AtoiAll
import Derived.WalkSmall
namespace Go.Proofs.YtmdcedbnlbcdjaaDoor
open Go Go.RowKit Go.My Go.Shelf

/-- The package-level variables that the library reads, in blocks below 8. -/
structure G (w : World) : Prop where
  size : 8 ≤ w.heap.size
  maxlen : ∃ m, w.cell? ⟨1, 0, none⟩ = some (.int .i64 m)
  pow : Lib.TabIs Tryd.prog w "internal/strconv.uint64pow10" .u64 Lib.pow10Tab
  syn : ∃ te pe, w.cell? ⟨2, 0, none⟩ = some (.iface te pe)
  rng : ∃ te pe, w.cell? ⟨3, 0, none⟩ = some (.iface te pe)
theorem gPow : Tryd.prog.globalNamed "internal/strconv.uint64pow10" = some 0 := by kernel_rfl
theorem G.below {w w' : World} {n : Nat} (h : G w) (hb : Below n w w') (hn : 8 ≤ n) : G w' := by
  refine ⟨Nat.le_trans h.size hb.size, ?_, ?_, ?_, ?_⟩
  · obtain ⟨m, hm⟩ := h.maxlen
    exact ⟨m, (hb.cell (p := ⟨1, 0, none⟩) (by show _ < n; simp only []; omega)).trans hm⟩
  · exact var?_below hb gPow (by omega) h.pow
  · obtain ⟨t, p, hm⟩ := h.syn
    exact ⟨t, p, (hb.cell (p := ⟨2, 0, none⟩) (by show _ < n; simp only []; omega)).trans hm⟩
  · obtain ⟨t, p, hm⟩ := h.rng
    exact ⟨t, p, (hb.cell (p := ⟨3, 0, none⟩) (by show _ < n; simp only []; omega)).trans hm⟩
theorem G.after {w w' : World} (h : G w) (hb : Below w.heap.size w w') : G w' := h.below hb h.size

theorem G.drew {w : World} (h : G w) : G w.drew := ⟨h.size, h.maxlen, h.pow, h.syn, h.rng⟩
/-! ### strconv -/
/-- How strconv.Atoi answers. -/
def AtoiPost (l : List UInt8) (w : World) (e : Ending) (w' : World) : Prop :=
  (∃ v er, e = .returned (.tuple #[.int .i64 v, er]) ∧ (match Lib.atoiAll l with | .ok u => v = u ∧ er = .nilIface | _ => ∃ t p, er = .iface t p) ∧ -9223372036854775808 ≤ v ∧ v ≤ 9223372036854775807) ∧ Below w.heap.size w w'
theorem atoiAll_range {l : List UInt8} {v : Int} (h : Lib.atoiAll l = .ok v) : -9223372036854775808 ≤ v ∧ v ≤ 9223372036854775807 := by
  unfold Lib.atoiAll at h
  split at h
  · cases h
  · rename_i c r
    dsimp only at h
    split at h
    · cases h
    · cases h
    · rename_i u hu
      split at h
      · cases h
      · split at h
        · cases h
        · injection h with h
          subst h
          split <;> omega
theorem bytesWorld_below (w : World) (e : TypeId) (t : ByteArray) : Below w.heap.size w (Lib.bytesWorld w e t) :=
  ⟨rfl, rfl, rfl, by rw [Lib.bytesWorld_size]; omega, fun i hi => Lib.bytesWorld_at_old w e t i hi⟩
theorem atoi_any (s : ByteArray) (w : World) (hG : G w) (hs : s.size ≤ 281474976710656) : Calls Tryd.prog 33 #[.string s] w (AtoiPost s.data.toList w) := by
  rcases h : Lib.atoiAll s.data.toList with v | _ | _
  · refine (Tryd.strconv_Atoi_ok s (by omega) v h w).mono ?_
    rintro e w' ⟨rfl, hw⟩
    have := atoiAll_range h
    refine ⟨⟨v, _, rfl, by rw [h]; exact ⟨rfl, rfl⟩, this.1, this.2⟩, ?_⟩
    rcases hw with rfl | ⟨t, rfl⟩
    · exact Below.refl _ _
    · exact bytesWorld_below _ _ _
  · obtain ⟨te, pe, hv⟩ := hG.syn
    refine (Any.strconv_Atoi_syntax Tryd.laysC172 s hs h _ w hv (Or.inr ⟨te, pe, rfl⟩)).mono ?_
    rintro e w' ⟨N, rfl, _, _, hb⟩
    exact ⟨⟨0, _, rfl, by rw [h]; exact ⟨_, _, rfl⟩, by omega, by omega⟩, hb⟩
  · obtain ⟨te, pe, hv⟩ := hG.rng
    refine (Tryd.strconv_Atoi_range s hs h _ w hv (Or.inr ⟨te, pe, rfl⟩)).mono ?_
    rintro e w' ⟨N, rfl, _, _, hb⟩
    refine ⟨⟨Lib.atoiSat s.data.toList, _, rfl, by rw [h]; exact ⟨_, _, rfl⟩, ?_, ?_⟩, hb⟩
    all_goals (unfold Lib.atoiSat; split <;> omega)
theorem grow_below (w : World) (k : Nat) (os : Array Obj) : Below w.heap.size w (Go.Sort.grow (w.drewN k) os) :=
  ⟨rfl, rfl, rfl, by simp [Go.Sort.grow], fun i hi => by
    show ((w.drewN k).heap ++ os)[i]? = _
    rw [Array.getElem?_append_left (by show i < w.heap.size; omega)]
    rfl⟩
def ItoaPost (n : Int) (w : World) (e : Ending) (w' : World) : Prop := e = .returned (.string ⟨(Lib.itoa n).toArray⟩) ∧ Below w.heap.size w w'
theorem itoa_any (n : Int) (w : World) (hG : G w) (h0 : -9223372036854775808 ≤ n) (h1 : n ≤ 9223372036854775807) : Calls Tryd.prog 12 #[.int .i64 n] w (ItoaPost n w) :=
  (Tryd.strconv_Itoa n h0 h1 w hG.pow).mono fun e w' ⟨he, k, os, hw⟩ => ⟨he, hw ▸ grow_below w k os⟩
end Go.Proofs.YtmdcedbnlbcdjaaDoor
