/- What a slice reads as: cells in a row. No program in it. -/
import Derived.Below
import Derived.WalkKit
import Derived.Laws.BytesArg
import Derived.Lib.ConvBytes
import Derived.Lib.Bytes
import Derived.Deep.QuietTactic
namespace Go.My
open Go Go.RowKit

abbrev Str := List UInt8
def u8v (b : UInt8) : Value := .int .u8 (b.toNat : Int)
def strv (l : List UInt8) : Value := .string ⟨l.toArray⟩

/-- The cells vs stand in a row from A on, in a block below n. -/
def Rd (n : Nat) (w : World) (A : Option Addr) (vs : List Value) : Prop :=
  vs ≠ [] → ∃ b o, A = some ⟨b, o, none⟩ ∧ b < n ∧ ∀ j u, vs[j]? = some u → w.cell? ⟨b, o + j, none⟩ = some u

theorem Rd.nil (n : Nat) (w : World) (A : Option Addr) : Rd n w A [] := fun h => absurd rfl h
theorem Rd.below {n : Nat} {w w' : World} {A : Option Addr} {vs : List Value} (h : Rd n w A vs) (hb : Below n w w') : Rd n w' A vs := fun hne => by
  obtain ⟨b, o, rfl, hlt, hc⟩ := h hne
  exact ⟨b, o, rfl, hlt, fun j u hu => (hb.cell (p := ⟨b, o + j, none⟩) hlt).trans (hc j u hu)⟩
theorem Rd.mono {n m : Nat} {w : World} {A : Option Addr} {vs : List Value} (h : Rd n w A vs) (hm : n ≤ m) : Rd m w A vs := fun hne => by
  obtain ⟨b, o, e, hlt, hc⟩ := h hne
  exact ⟨b, o, e, Nat.lt_of_lt_of_le hlt hm, hc⟩
theorem Rd.some {n : Nat} {w : World} {A : Option Addr} {vs : List Value} (h : Rd n w A vs) (h0 : 0 < vs.length) :
    ∃ b o, A = Option.some ⟨b, o, none⟩ ∧ b < n ∧ ∀ j u, vs[j]? = Option.some u → w.cell? ⟨b, o + j, none⟩ = Option.some u :=
  h (by intro e; rw [e] at h0; simp at h0)
theorem Rd.take {n : Nat} {w : World} {A : Option Addr} {vs : List Value} (h : Rd n w A vs) (k : Nat) : Rd n w A (vs.take k) := fun hne => by
  have h0 : vs ≠ [] := by intro e; rw [e] at hne; simp at hne
  obtain ⟨b, o, e, hlt, hc⟩ := h h0
  refine ⟨b, o, e, hlt, fun j u hu => hc j u ?_⟩
  rw [List.getElem?_take] at hu
  split at hu
  · exact hu
  · cases hu
/-- What Go's 'x[k:]' makes of an address (elements of one cell). -/
def cutA (A : Option Addr) (c k : Nat) : Option Addr := if c = k then A else A.map (·.add k)
theorem Rd.drop {n : Nat} {w : World} {A : Option Addr} {vs : List Value} (h : Rd n w A vs) (c k : Nat) (hc : vs.length ≤ c) : Rd n w (cutA A c k) (vs.drop k) := fun hne => by
  have h0 : vs ≠ [] := by intro e; rw [e] at hne; simp at hne
  have hk : k < vs.length := by
    rcases Nat.lt_or_ge k vs.length with h1 | h1
    · exact h1
    · exact absurd (List.drop_eq_nil_of_le h1) hne
  obtain ⟨b, o, rfl, hlt, hcell⟩ := h h0
  refine ⟨b, o + k, ?_, hlt, fun j u hu => ?_⟩
  · unfold cutA
    rw [if_neg (by omega)]
    simp only [Option.map_some]
    congr 1
    unfold Addr.add
    split <;> simp_all
  · rw [List.getElem?_drop] at hu
    rw [Nat.add_assoc]
    exact hcell _ _ hu
/-- An owned row reads as its cells. -/
theorem Rd.owned {w : World} {base : Nat} {e : TypeId} {size : Nat} {A : Option Addr} {n c : Nat} {vs : List Value} (h : w.ownsRow base e size (.slice A n c) n vs) : Rd w.heap.size w A vs := fun hne => by
  rcases h.2 with ⟨h1, h2⟩ | ⟨g, cap, cur, h1, hb, hh, hn, hm, hs, ht⟩
  · subst h2
    have := h.1
    simp at this
    exact absurd this hne
  · injection h1 with h1 h2 h3
    subst h1
    refine ⟨g, 0, rfl, (Array.getElem?_eq_some_iff.1 hh).1, fun j u hu => ?_⟩
    have := h.cells (g := g) rfl j u hu
    rwa [show ((⟨g, 0, none⟩ : Addr).add j) = ⟨g, 0 + j, none⟩ from by unfold Addr.add; split <;> simp_all] at this

theorem map_getElem?_getD {α : Type} (f : α → Value) (l : List α) (j : Nat) (h : j < l.length) : (l.map f)[j]? = Option.some (f l[j]) := by
  simp [h]
/-- Bytes: as the library's contracts ask. -/
def nums (l : List UInt8) : List Int := l.map fun b => (b.toNat : Int)
theorem nums_length (l : List UInt8) : (nums l).length = l.length := by simp [nums]
theorem Rd.nums {n : Nat} {w : World} {b o : Nat} {l : List UInt8} (h : Rd n w (Option.some ⟨b, o, none⟩) (l.map u8v)) : ∀ i, i < l.length → w.cell? ⟨b, o + i, none⟩ = Option.some (.int .u8 ((Go.My.nums l).getD i 0)) := fun i hi => by
  obtain ⟨b', o', e, _, hc⟩ := h.some (by simp; omega)
  injection e with e
  injection e with e1 e2
  subst e1; subst e2
  rw [hc i _ (map_getElem?_getD u8v l i hi)]
  simp [u8v, Go.My.nums, hi]
theorem bytesOf_nums (l : List UInt8) : Lib.bytesOf (nums l) = l := by
  unfold Lib.bytesOf nums
  rw [List.map_map]
  have : (fun n : Int => UInt8.ofNat n.toNat) ∘ (fun b : UInt8 => (b.toNat : Int)) = id := by
    funext b
    simp
  rw [this, List.map_id]
theorem strOfNums_nums (l : List UInt8) : strOfNums (nums l) = ⟨l.toArray⟩ := by
  unfold strOfNums
  have := bytesOf_nums l
  unfold Lib.bytesOf at this
  rw [this]
theorem run_convert_bytes_zero' {P : Program} (w : World) (src e : TypeId) (hs : P.underlying src = Option.some (.slice e)) (he : P.underlying e = Option.some (.int .u8)) (p : Option Addr) (c : Nat) :
    ∀ dst, P.underlying dst = Option.some .string → (convert src dst (.slice p 0 c)).run P w = .ok (.string ByteArray.empty) w := by
  intro dst hd
  rw [run_convert_bytes_string w src dst e _ 0 c hs he hd]
  cases p <;> simp [Conv.bytesToString, loadCells]
  all_goals rfl
/-- 'string(b)'. -/
theorem run_string_rd {P : Program} {n : Nat} {w : World} (src dst e : TypeId) (hs : P.underlying src = Option.some (.slice e)) (he : P.underlying e = Option.some (.int .u8)) (hd : P.underlying dst = Option.some .string)
    {A : Option Addr} {l : List UInt8} {k c : Nat} (hk : l.length = k) (h : Rd n w A (l.map u8v)) : (convert src dst (.slice A k c)).run P w = .ok (strv l) w := by
  rcases Nat.eq_zero_or_pos k with h0 | h0
  · subst h0
    obtain rfl : l = [] := List.eq_nil_of_length_eq_zero hk
    rw [run_convert_bytes_zero' w src e hs he A c dst hd]
    rfl
  · obtain ⟨b, o, rfl, hlt, hc⟩ := h.some (by simp; omega)
    have := run_convert_bytes_arg (P := P) (w := w) src e hs he b o k c (nums l) (by rw [nums_length]; exact hk) (fun i hi => by have := h.nums i (by omega); simpa using this) dst hd
    rw [this, strOfNums_nums]
    rfl
theorem bal (w : World) (o : Obj) : Below w.heap.size w (w.alloc o) := (Below.refl _ _).alloc (Nat.le_refl _) o
/-- One call behind another. -/
theorem bthen {n : Nat} {w w1 w2 : World} (h : Below n w w1) (k : Below w1.heap.size w1 w2) (hn : n ≤ w.heap.size) : Below n w w2 := h.trans (k.mono (Nat.le_trans hn h.size))
/-- A block known whole. -/
theorem bcell {w : World} {b : Nat} {cs : Array Value} {t : TypeId} {fr : Nat × Nat} (h : w.heap[b]? = Option.some (.cells cs t fr)) (j : Nat) : w.cell? ⟨b, j, none⟩ = cs[j]? := by
  simp [World.cell?, h]
theorem bfree {w : World} {b : Nat} {cs : Array Value} {t : TypeId} (h : w.heap[b]? = Option.some (.cells cs t (0, 0))) (j : Nat) : w.frozen? ⟨b, j, none⟩ = false := by
  simp [World.frozen?, h]
theorem bnew (w : World) (o : Obj) : (w.alloc o).heap[w.heap.size]? = Option.some o := by
  show (w.heap.push o)[w.heap.size]? = _
  simp
theorem bold {w : World} {b : Nat} {o : Obj} (h : w.heap[b]? = Option.some o) (o' : Obj) : (w.alloc o').heap[b]? = Option.some o := by
  have hlt := (Array.getElem?_eq_some_iff.1 h).1
  exact (Below.heap_alloc w o' b hlt).trans h
theorem bkeep {n : Nat} {w w' : World} {b : Nat} {o : Obj} (h : w.heap[b]? = Option.some o) (hb : Below n w w') (hn : b < n) : w'.heap[b]? = Option.some o := (hb.block b hn).trans h
theorem keep {w w' : World} {b : Nat} {o : Obj} (h : w.heap[b]? = Option.some o) (hb : Below w.heap.size w w') : w'.heap[b]? = Option.some o := bkeep h hb (Array.getElem?_eq_some_iff.1 h).1
theorem blt {w : World} {b : Nat} {o : Obj} (h : w.heap[b]? = Option.some o) : b < w.heap.size := (Array.getElem?_eq_some_iff.1 h).1
theorem bset {n : Nat} {w w' : World} (h : Below n w w') {b : Nat} (hn : n ≤ b) (j : Nat) (v : Value) : Below n w (w'.setCell ⟨b, j, none⟩ v) := h.setCell (p := ⟨b, j, none⟩) hn v
theorem bstore {w : World} {b : Nat} {cs : Array Value} {t : TypeId} {fr : Nat × Nat} (h : w.heap[b]? = Option.some (.cells cs t fr)) (j : Nat) (v : Value) : (w.setCell ⟨b, j, none⟩ v).heap[b]? = Option.some (.cells (cs.setIfInBounds j v) t fr) := by
  obtain ⟨hlt, he⟩ := Array.getElem?_eq_some_iff.1 h
  show (w.heap.modify b _)[b]? = _
  rw [Array.getElem?_eq_getElem (by rw [Array.size_modify]; exact hlt), Array.getElem_modify_self, he]
  rfl
theorem bother {w : World} {b b' : Nat} {o : Obj} (h : w.heap[b]? = Option.some o) (hne : b ≠ b') (j : Nat) (v : Value) : (w.setCell ⟨b', j, none⟩ v).heap[b]? = Option.some o :=
  (Below.heap_setCell w ⟨b', j, none⟩ v b hne).trans h
/-- A quiet call behind a quiet region. -/
theorem quiet_add_same {P : Program} {f : FuncId} {args : Array Value} {w : World} {a n : Nat} {v : Value}
    (h : Calls P f args (w.drewN (a + n)) fun e w' => e = .returned v ∧ w' = w.drewN (a + n)) :
    Calls P f args (w.drewN (a + n)) fun e w'' => e = .returned v ∧ ∃ m, w'' = w.drewN (a + m) :=
  h.mono fun _ _ ⟨he, hm⟩ => ⟨he, n, hm⟩
theorem grown_below {w w' : World} (hb : Below w.heap.size w w') : w.grownBy w' none := ⟨hb.os, hb.tape, hb.output, hb.size, fun k hk _ => hb.block k hk⟩
theorem okeep {w w' : World} {base : Nat} {e : TypeId} {size : Nat} {v : Value} {n : Nat} {xs : List Value} (h : w.ownsRow base e size v n xs) (hb : Below w.heap.size w w') : w'.ownsRow base e size v n xs :=
  h.kept (grown_below hb) (by cases v.ownBlock <;> simp)
/-- Behind an append onto a row of one's own. -/
theorem own_grow {a w w' : World} {n base : Nat} {e : TypeId} {size : Nat} {v : Value} {k : Nat} {xs : List Value} (h : Below n a w) (ho : w.ownsRow base e size v k xs) (hg : w.grownBy w' v.ownBlock) (hn : n ≤ base) (hs : n ≤ w.heap.size) : Below n a w' :=
  h.grown hg hs (fun j hj => Nat.le_trans hn (ho.lt j hj).1)
theorem own_blk {w w' : World} {base : Nat} {e : TypeId} {size : Nat} {v : Value} {k : Nat} {xs : List Value} {b : Nat} {o : Obj} (h : w.heap[b]? = Option.some o) (ho : w.ownsRow base e size v k xs) (hg : w.grownBy w' v.ownBlock) (hb : b < base) : w'.heap[b]? = Option.some o :=
  (hg.block b (blt h) (fun e => by have := (ho.lt b e.symm).1; omega)).trans h
theorem own_base {w : World} {base base' : Nat} {e : TypeId} {size : Nat} {v : Value} {k : Nat} {xs : List Value} (ho : w.ownsRow base e size v k xs) (hb : base' ≤ base) : w.ownsRow base' e size v k xs := by
  rcases ho with ⟨h1, h2 | ⟨g, cap, cur, h, hb', r⟩⟩
  · exact ⟨h1, .inl h2⟩
  · exact ⟨h1, .inr ⟨g, cap, cur, h, Nat.le_trans hb hb', r⟩⟩
theorem bnews {w : World} {B : Nat} {cs : Array Value} {t : TypeId} {fr : Nat × Nat} (hb : w.heap[B]? = Option.some (.cells cs t fr)) : ∀ (j : Nat) (u : Value), cs.toList[j]? = Option.some u → w.cell? ((⟨B, 0, none⟩ : Addr).add j) = Option.some u := fun j u hu => by
  have hadd : (⟨B, 0, none⟩ : Addr).add j = ⟨B, j, none⟩ := by unfold Addr.add; split <;> simp_all
  rw [hadd, bcell hb]
  simpa using hu
theorem own_succ {w : World} {base : Nat} {e : TypeId} {size : Nat} {v : Value} {n : Nat} {xs : List Value} (h : w.ownsRow base e size v (n + 1) xs) : ∃ g cap, v = .slice (Option.some ⟨g, 0, none⟩) (n + 1) cap ∧ n + 1 ≤ cap := by
  rcases h.2 with ⟨_, h2⟩ | ⟨g, cap, cur, h1, _, _, h2, _⟩
  · omega
  · exact ⟨g, cap, h1, h2⟩
theorem own_slice {w : World} {base : Nat} {e : TypeId} {size : Nat} {v : Value} {n : Nat} {xs : List Value} (h : w.ownsRow base e size v n xs) : ∃ A cap, v = .slice A n cap ∧ n ≤ cap := by
  rcases h.2 with ⟨h1, h2⟩ | ⟨g, cap, cur, h1, _, _, h2, _⟩
  · subst h2; exact ⟨none, 0, h1, Nat.le_refl _⟩
  · exact ⟨_, cap, h1, h2⟩
theorem set_size (w : World) (a : Addr) (v : Value) : (w.setCell a v).heap.size = w.heap.size := by simp [World.setCell]
theorem set_grown (w : World) (b j : Nat) (v : Value) : w.grownBy (w.setCell ⟨b, j, none⟩ v) (Option.some b) :=
  ⟨rfl, rfl, rfl, by rw [set_size]; exact Nat.le_refl _, fun k _ hk => Below.heap_setCell w ⟨b, j, none⟩ v k (fun e => hk (by rw [e]))⟩
theorem own_far {w : World} {base : Nat} {e : TypeId} {size : Nat} {v : Value} {n : Nat} {xs : List Value} (h : w.ownsRow base e size v n xs) {b : Nat} (hb : b < base) (j : Nat) (u : Value) : (w.setCell ⟨b, j, none⟩ u).ownsRow base e size v n xs :=
  h.kept (set_grown w b j u) (by
    cases hv : v.ownBlock with
    | none => exact .inl rfl
    | some k => refine .inr ?_; intro e; injection e with e; have := (h.lt k hv).1; omega)
/-- Go's 'x[m:]', elements of one cell. -/
theorem run_cut {P : Program} (t e : TypeId) (kl : IntKind) {i : TypeInfo} (ht : P.underlying t = Option.some (.slice e)) (hi : P.info? e = Option.some i) (hsz : i.size = 1) (A : Option Addr) (n c m : Nat) (hm : m ≤ n) (z : Int) (hz : z = (m : Int)) (W : World) :
    (Instr.slice t (.slice A n c) (Option.some (.int kl z)) none none).run P W = .ok (.slice (cutA A c m) (n - m) (c - m)) W := by
  subst hz
  have hel : P.elem t = e := by simp [Program.elem, ht]
  have hu : P.underlying t = Option.some (.slice (P.elem t)) := by rw [hel]; exact ht
  rw [run_slice_l W t A n c hu kl (m : Int) (Int.natCast_nonneg _) (by omega), hel]
  simp [sizeOf, typeInfo, hi, hsz, sliced, Result.andThen, cutA]
theorem cutA_none {A : Option Addr} {c m : Nat} (h : cutA A c m = none) : A = none := by
  unfold cutA at h
  split at h
  · exact h
  · cases A with
    | none => rfl
    | some a => simp at h
end Go.My
