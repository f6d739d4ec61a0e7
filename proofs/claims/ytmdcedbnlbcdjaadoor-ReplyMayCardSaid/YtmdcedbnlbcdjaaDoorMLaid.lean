/- What a row's conditions give: listed variables, bytes that came in. No program in it. -/
import Derived.Test.YtmdcedbnlbcdjaaDoorMWords
import Derived.LaidLaws
import Derived.LaidHandle
import Derived.LaidMore
import Derived.Lib.LaidTab
import Derived.ChangeSlices
import Derived.OpenShut
namespace Go.My
open Go Go.RowKit

/-- One of the listed variables. -/
theorem laidVars_mem {P : Program} {w : World} : ∀ {l : List (String × DataW Unit)} {ps : List MemPlace}, DataW.LaidVars P w l ps → ∀ (n : String) (d : DataW Unit), (n, d) ∈ l →
    ∃ g t cs fuel p, P.globalNamed n = some g ∧ (P.globals[g]?).map (·.type) = some t ∧ w.var? P n = some cs ∧ DataW.trod (fun _ => ()) P w 0 (fun _ => true) false fuel t cs.toList = some (d, p)
  | [], _, _, n, d, hm => by cases hm
  | (n', d') :: r, _, ⟨g, t, cs, fuel, p, q, h1, h2, h3, h4, h5, _⟩, n, d, hm => by
    rcases List.mem_cons.1 hm with e | hm
    · injection e with e1 e2
      subst e1; subst e2
      exact ⟨g, t, cs, fuel, p, h1, h2, h3, h4⟩
    · exact laidVars_mem h5 n d hm
theorem laidH_mem {P : Program} {w : World} {l : List (String × DataW Unit)} (h : laidMetH P l w) (hno : (l.filter fun x => x.2.handleName?.isSome).isEmpty = true) {n : String} {d : DataW Unit} (hm : (n, d) ∈ l) :
    ∃ g t cs fuel p, P.globalNamed n = some g ∧ (P.globals[g]?).map (·.type) = some t ∧ w.var? P n = some cs ∧ DataW.trod (fun _ => ()) P w 0 (fun _ => true) false fuel t cs.toList = some (d, p) := by
  unfold laidMetH at h
  rw [List.isEmpty_iff.1 hno] at h
  obtain ⟨ps, h, _⟩ := h
  exact laidVars_mem h n d hm
/-- A listed table of numbers. -/
theorem laid_tab {P : Program} {W : World} {l : List (String × DataW Unit)} (h : laidMetH P l W) (hno : (l.filter fun x => x.2.handleName?.isSome).isEmpty = true) {name : String} {k : IntKind} {zs : List Int} {g : Nat} {t e : TypeId} {n : Nat}
    (hm : (name, Lib.tabData k zs) ∈ l) (hg : P.globalNamed name = some g) (hty : (P.globals[g]?).map (·.type) = some t) (ht : P.underlying t = some (.array n e)) (he : P.underlying e = some (.int k)) (hce : P.cellsOf e = 1) (hct : P.cellsOf t = n) : Lib.TabIs P W name k zs := by
  obtain ⟨g', t', cs, fuel, p, hg', ht', hvar, hd⟩ := laidH_mem h hno hm
  obtain rfl := Option.some.inj (hg.symm.trans hg')
  obtain rfl := Option.some.inj (hty.symm.trans ht')
  unfold Lib.TabIs
  rw [hvar, ← Lib.cells_of_tab ht he hce hct hd]
/-- A listed error. -/
theorem laid_iface {P : Program} {W : World} {l : List (String × DataW Unit)} (h : laidMetH P l W) (hno : (l.filter fun x => x.2.handleName?.isSome).isEmpty = true) {name nm : String} {d : DataW Unit} {g : Nat} {t : TypeId} {ms : Array (String × TypeId)}
    (hm : (name, .iface nm d) ∈ l) (hg : P.globalNamed name = some g) (hty : (P.globals[g]?).map (·.type) = some t) (ht : P.underlying t = some (.interface ms)) : ∃ u v, W.cell? ⟨g, 0, none⟩ = some (.iface u v) := by
  obtain ⟨g', t', cs, fuel, p, hg', ht', hvar, hd⟩ := laidH_mem h hno hm
  obtain rfl := Option.some.inj (hg.symm.trans hg')
  obtain rfl := Option.some.inj (hty.symm.trans ht')
  obtain ⟨f', u, v, hcs, _, _⟩ := iface_of_trod ht hd
  refine ⟨u, v, ?_⟩
  rw [World.var?_cell hg hvar 0, ← Array.getElem?_toList, hcs]
  rfl

/-- A slice of numbers that came in. -/
def IsRow (k : IntKind) (w : World) (a : Option Addr) (len cap : Nat) (zs : List Int) : Prop :=
  (a = none ∧ len = 0 ∧ cap = 0 ∧ zs = []) ∨
  ∃ x, a = some x ∧ len ≤ cap ∧ cap ≤ maxLen ∧ zs.length = cap ∧ (∀ i, i < zs.length → w.cell? (x.add i) = some (.int k (zs.getD i 0))) ∧ ∀ n ∈ zs, (Lit.int k n).wf = true
theorem u8_of_wf {z : Int} (h : (Lit.int .u8 z).wf = true) : u8v (UInt8.ofNat z.toNat) = .int .u8 z := by
  have hb : 0 ≤ z ∧ z ≤ 255 := by
    have := bounds_u8 h
    omega
  unfold u8v
  congr 1
  rw [UInt8.toNat_ofNat']
  omega
/-- Bytes that came in. -/
theorem IsRow.rd {w : World} {a : Option Addr} {len cap : Nat} {zs : List Int} (h : IsRow .u8 w a len cap zs) : ∃ l : Str, l.length = len ∧ Rd w.heap.size w a (l.map u8v) := by
  rcases h with ⟨rfl, rfl, rfl, rfl⟩ | ⟨x, rfl, hl, hm, hz, hcell, hwf⟩
  · exact ⟨[], rfl, Rd.nil _ _ _⟩
  · refine ⟨(zs.take len).map fun z => UInt8.ofNat z.toNat, by rw [List.length_map, List.length_take]; omega, fun hne => ?_⟩
    have h0 : 0 < len := by
      rcases Nat.eq_zero_or_pos len with h0 | h0
      · subst h0; simp at hne
      · exact h0
    have hc0 := hcell 0 (by omega)
    have hsp : x.spot = none := by
      cases hs : x.spot with
      | none => rfl
      | some s =>
        have e : x.add 0 = x := by simp [Addr.add]
        rw [e] at hc0
        unfold World.cell? at hc0
        split at hc0
        · rw [hs] at hc0; simp at hc0
        · cases hc0
    obtain ⟨b, o, s⟩ := x
    subst hsp
    have hlt : b < w.heap.size := World.block_lt_of_cell? w _ (by simpa [Addr.add] using hc0)
    refine ⟨b, o, rfl, hlt, fun j u hu => ?_⟩
    rw [List.map_map, List.getElem?_map] at hu
    obtain ⟨z, hz', rfl⟩ := Option.map_eq_some_iff.1 hu
    have hj : j < len := by
      have := (List.getElem?_eq_some_iff.1 hz').1
      rw [List.length_take] at this
      omega
    rw [List.getElem?_take] at hz'
    rw [if_pos hj] at hz'
    have := hcell j (by omega)
    have hadd : (⟨b, o, none⟩ : Addr).add j = ⟨b, o + j, none⟩ := by unfold Addr.add; split <;> simp_all
    rw [hadd] at this
    rw [this, List.getD_eq_getElem?_getD, hz']
    simp only [Option.getD_some, Function.comp]
    rw [u8_of_wf (hwf z (List.mem_of_getElem? hz'))]
end Go.My
