/- Put, of a reader that has read nothing. -/
import Derived.Test.YtmdcedbnlbcdjaaDoorMReplyL
import Derived.Test.YtmdcedbnlbcdjaaDoorMReplyQ
import Derived.Deep.RegionLaw
import Derived.Deep.RegionHeld3
namespace Go.Proofs.YtmdcedbnlbcdjaaDoor
open Go Go.RowKit Go.My Go.Shelf

/-- What is left of a reader, and what is told. -/
structure PutPost (r : Nat) (l : Str) (w : World) (e : Ending) (w' : World) : Prop where
  told : ∃ lv, e = .returned lv ∧ Reps w.heap.size w'.heap.size w' lv (runL (l.length + 1) l {}).1.told
  left : ∃ A c, w'.heap[r]? = some (.cells #[.slice A (if (runL (l.length + 1) l {}).2 then l.length - (runL (l.length + 1) l {}).1.used else 0) c, .bool (!(runL (l.length + 1) l {}).2)] 44 (0, 0))
  os : w'.os = w.os
  tape : w'.tape = w.tape
  output : w'.output = w.output
  size : w.heap.size ≤ w'.heap.size
  old : ∀ k, k < w.heap.size → k ≠ r → w'.heap[k]? = w.heap[k]?

theorem own_none {w : World} {base : Nat} {e : TypeId} {size : Nat} {n c : Nat} {xs : List Value} (h : w.ownsRow base e size (.slice none n c) n xs) : n = 0 ∧ c = 0 := by
  rcases h.2 with ⟨h1, h2⟩ | ⟨g, cap, cur, h1, _⟩
  · injection h1 with _ _ h3
    exact ⟨h2, h3⟩
  · injection h1 with h1
    cases h1

noncomputable abbrev putW (w : World) (r : Nat) : World := ((w.alloc (.cells #[.pointer (some ⟨r, 0, none⟩)] 36)).alloc (.cells #[.slice none 0 0] 24)).drew
noncomputable abbrev putX (w2 : World) (r : Nat) (v : Value) : World := (w2.setCell ⟨r, 0, none⟩ v).alloc (.cells #[.int .i64 0] 3)

/-- All of it, behind the bytes that are kept. -/
theorem put_all (r n c' : Nat) (A' : Option Addr) (l : Str) (w w2 : World) (hG : G w) (h8 : 8 ≤ r) (l1 : r < w.heap.size) (hn : l.length = n) (hlen : n ≤ 1000000)
    (hown : w2.ownsRow w.heap.size 5 1 (.slice A' n c') n (l.map u8v)) (hg : (putW w r).grownBy w2 none) (hc : n ≤ c') :
    Calls Tryd.prog 17 #[.slice A' n c', .func (.func 18) #[] #[.pointer (some ⟨w.heap.size + 1, 0, none⟩), .pointer (some ⟨w2.heap.size, 0, none⟩)]] (putX w2 r (.slice A' n c')) fun e w' =>
      (e = .returned (.tuple #[]) ∧ (runL (l.length + 1) l {}).2 = true ∧ MI (putX w2 r (.slice A' n c')) (w.heap.size + 1) w2.heap.size (runL (l.length + 1) l {}).1 w') ∨
      (e = .panicked [{ v := wrongV, recovered := false }] ∧ (runL (l.length + 1) l {}).2 = false ∧ MI (putX w2 r (.slice A' n c')) (w.heap.size + 1) w2.heap.size (runL (l.length + 1) l {}).1 w') := by
  have hs := hg.size
  have hs0 : (putW w r).heap.size = w.heap.size + 2 := by simp
  have h80 := hG.size
  have hbl : (putW w r).heap[w.heap.size + 1]? = some (.cells #[.slice none 0 0] 24 (0, 0)) := by
    have := bnew (w.alloc (.cells #[.pointer (some ⟨r, 0, none⟩)] 36)) (.cells #[.slice none 0 0] 24)
    rw [show (w.alloc (.cells #[.pointer (some ⟨r, 0, none⟩)] 36)).heap.size = w.heap.size + 1 by simp] at this
    exact this
  have hbw : Below w.heap.size w (putW w r) := (((Below.refl _ _).alloc (Nat.le_refl _) _).alloc (by simp) _).drew
  refine all_any A' n c' l (w.heap.size + 1) w2.heap.size _ (hG.below (n := 8) ((((hbw.mono hG.size).grown hg (by omega) (by simp)).setCell (p := ⟨r, 0, none⟩) h8 _).alloc (by simp only [set_size]; omega) _) (Nat.le_refl _)) (by omega) (by omega) (by omega) ?_ ?_ hn hc ?_ ?_ (by omega)
  · exact bold (bother ((hg.block _ (by omega) (by simp)).trans hbl) (by omega) 0 _) _
  · have := bnew (w2.setCell ⟨r, 0, none⟩ (.slice A' n c')) (.cells #[.int .i64 0] 3)
    rw [set_size] at this
    exact this
  · rintro rfl
    exact (own_none hown).2
  · have h3 := okeep (own_far hown l1 0 (.slice A' n c')) (bal _ (.cells #[.int .i64 0] 3))
    exact RdT.owned h3

/-- What lies at the end. -/
theorem put_post (r n c' : Nat) (A' : Option Addr) (l : Str) (w w2 w' w5 : World) (l1 : r < w.heap.size) (hg : (putW w r).grownBy w2 none)
    (hM : MI (putX w2 r (.slice A' n c')) (w.heap.size + 1) w2.heap.size (runL (l.length + 1) l {}).1 w')
    (hr' : w'.heap[r]? = some (.cells #[.slice A' n c', .bool false] 44 (0, 0)))
    (hkeep : ∀ k, k < w'.heap.size → k ≠ w.heap.size + 1 → k ≠ r → w5.heap[k]? = w'.heap[k]?) (hsz : w'.heap.size ≤ w5.heap.size) (hos : w5.os = w'.os) (htp : w5.tape = w'.tape) (hout : w5.output = w'.output)
    (lv : Value) (hlv : w'.heap[w.heap.size + 1]? = some (.cells #[lv] 24 (0, 0)))
    (hleft : ∃ A c, w5.heap[r]? = some (.cells #[.slice A (if (runL (l.length + 1) l {}).2 then l.length - (runL (l.length + 1) l {}).1.used else 0) c, .bool (!(runL (l.length + 1) l {}).2)] 44 (0, 0))) :
    PutPost r l w (.returned lv) w5 := by
  obtain ⟨N, A, c, lv', h1, h2, h3, h4, h5, h6, h7⟩ := hM.rest
  rw [hlv] at h5
  injection h5 with h5
  injection h5 with h5
  obtain rfl : lv = lv' := by simpa using h5
  have hs := hg.size
  have hs0 : (putW w r).heap.size = w.heap.size + 2 := by simp
  have hs1 : (putX w2 r (.slice A' n c')).heap.size = w2.heap.size + 1 := by simp [set_size]
  have hz := hM.size
  refine ⟨⟨lv, rfl, ?_⟩, hleft, hos.trans (hM.os.trans hg.os), htp.trans (hM.tape.trans hg.tape), hout.trans (hM.output.trans hg.output), by omega, fun k hk hkr => ?_⟩
  · have hk5 := h6.keep (w' := w5) (fun k hk => hkeep k (by have := h7 k hk; omega) (by have := h6.base k hk; omega) (by have := h6.base k hk; omega)) (fun b cs fr hb hc => by
      refine (hkeep b (by omega) ?_ ?_).trans hc
      · rintro rfl; rw [hlv] at hc; injection hc with hc; injection hc with _ hc; cases hc
      · rintro rfl; rw [hr'] at hc; injection hc with hc; injection hc with _ hc; cases hc)
    obtain ⟨css, k1, k2, k3⟩ := hk5
    refine ⟨css, own_base k1 (by omega), k2, fun i cs x hi hx => ?_⟩
    obtain ⟨A1, c1, e1, e2, e3⟩ := k3 i cs x hi hx
    exact ⟨A1, c1, e1, e2, e3.mono (by omega)⟩
  · rw [hkeep k (by omega) (by omega) hkr, hM.old k (by omega) (by omega) (by omega)]
    show ((w2.setCell ⟨r, 0, none⟩ (.slice A' n c')).alloc (.cells #[.int .i64 0] 3)).heap[k]? = _
    rw [Below.heap_alloc _ _ _ (by simp only [set_size]; omega), Below.heap_setCell _ _ _ _ (show k ≠ r from hkr), hg.block k (by omega) (by simp)]
    exact (Below.heap_alloc _ _ _ (by simp; omega)).trans (Below.heap_alloc _ _ _ hk)

/-- What the reader's blocks hold behind all of it. -/
theorem put_held (r n c' : Nat) (A' : Option Addr) (l : Str) (w w2 w' : World) (l1 : r < w.heap.size) (hg : (putW w r).grownBy w2 none) (hr : w.heap[r]? = some (.cells #[.slice none 0 0, .bool false] 44 (0, 0)))
    (hM : MI (putX w2 r (.slice A' n c')) (w.heap.size + 1) w2.heap.size (runL (l.length + 1) l {}).1 w') :
    w'.heap[r]? = some (.cells #[.slice A' n c', .bool false] 44 (0, 0)) ∧ w'.heap[w.heap.size]? = some (.cells #[.pointer (some ⟨r, 0, none⟩)] 36 (0, 0)) := by
  have hs := hg.size
  have hs0 : (putW w r).heap.size = w.heap.size + 2 := by simp
  have hs1 : (putX w2 r (.slice A' n c')).heap.size = w2.heap.size + 1 := by simp [set_size]
  have hbw : Below w.heap.size w (putW w r) := (((Below.refl _ _).alloc (Nat.le_refl _) _).alloc (by simp) _).drew
  constructor
  · rw [hM.old r (by omega) (by omega) (by omega)]
    have := bold (bstore ((hg.block r (by omega) (by simp)).trans (keep hr hbw)) 0 (.slice A' n c')) (.cells #[.int .i64 0] 3)
    simpa using this
  · rw [hM.old w.heap.size (by omega) (by omega) (by omega)]
    refine bold (bother ((hg.block w.heap.size (by omega) (by simp)).trans ?_) (by omega) 0 (.slice A' n c')) (.cells #[.int .i64 0] 3)
    exact bold (bnew w _) _

/-- Put's closure, where nothing was wrong. -/
theorem put_idle (r n c' : Nat) (A' : Option Addr) (l : Str) (w w2 w' : World) (l1 : r < w.heap.size) (hn : l.length = n) (hlen : n ≤ 1000000) (hg : (putW w r).grownBy w2 none) (hr : w.heap[r]? = some (.cells #[.slice none 0 0, .bool false] 44 (0, 0)))
    (hown : w2.ownsRow w.heap.size 5 1 (.slice A' n c') n (l.map u8v)) (hc : n ≤ c') (hR : (runL (l.length + 1) l {}).2 = true)
    (hM : MI (putX w2 r (.slice A' n c')) (w.heap.size + 1) w2.heap.size (runL (l.length + 1) l {}).1 w') (lv : Value) (hlv : w'.heap[w.heap.size + 1]? = some (.cells #[lv] 24 (0, 0))) :
    CallsD Tryd.prog 15 #[.pointer (some ⟨w.heap.size, 0, none⟩), .pointer (some ⟨w2.heap.size, 0, none⟩)] .returning (w'.setCell ⟨w.heap.size + 1, 0, none⟩ lv) fun e u' w5 =>
      e = .returned (.tuple #[]) ∧ u' = .returning ∧ PutPost r l w (.returned lv) w5 ∧ w5.cell? ⟨w.heap.size + 1, 0, none⟩ = some lv := by
  obtain ⟨hr', hrb'⟩ := put_held r n c' A' l w w2 w' l1 hg hr hM
  have hs := hg.size
  have hs0 : (putW w r).heap.size = w.heap.size + 2 := by simp
  have hs1 : (putX w2 r (.slice A' n c')).heap.size = w2.heap.size + 1 := by simp [set_size]
  have hz := hM.size
  have hrd : RdT (putX w2 r (.slice A' n c')).heap.size (putX w2 r (.slice A' n c')) 5 A' (l.map u8v) := RdT.owned (okeep (own_far hown l1 0 (.slice A' n c')) (bal _ (.cells #[.int .i64 0] 3)))
  have hb3 := bstore hlv 0 lv
  refine (idle_any r w.heap.size w2.heap.size A' n c' (runL (l.length + 1) l {}).1.used l false (w'.setCell ⟨w.heap.size + 1, 0, none⟩ lv) (bother hrb' (by omega) 0 lv) (bother hr' (by omega) 0 lv) (bother hM.used (by omega) 0 lv) (by have := used_le l; omega) hn hc ?_ (by omega) ?_).mono ?_
  · rintro rfl
    exact (own_none hown).2
  · refine Rd.mono (RdT.rd (hrd.keep (w' := w'.setCell ⟨w.heap.size + 1, 0, none⟩ lv) fun b cs fr hb hcb => ?_)) (by rw [set_size]; omega)
    have hne1 : b ≠ w.heap.size + 1 := by
      rintro rfl
      have e := (bold (bother ((hg.block (w.heap.size + 1) (by omega) (by simp)).trans (show (putW w r).heap[w.heap.size + 1]? = some (.cells #[.slice none 0 0] 24 (0, 0)) by
        have := bnew (w.alloc (.cells #[.pointer (some ⟨r, 0, none⟩)] 36)) (.cells #[.slice none 0 0] 24)
        rw [show (w.alloc (.cells #[.pointer (some ⟨r, 0, none⟩)] 36)).heap.size = w.heap.size + 1 by simp] at this
        exact this)) (by omega : w.heap.size + 1 ≠ r) 0 (.slice A' n c')) (.cells #[.int .i64 0] 3))
      rw [show (putX w2 r (.slice A' n c')).heap[w.heap.size + 1]? = _ from e] at hcb
      injection hcb with hcb; injection hcb with _ hcb; cases hcb
    have hne2 : b ≠ w2.heap.size := by
      rintro rfl
      have e := bnew (w2.setCell ⟨r, 0, none⟩ (.slice A' n c')) (.cells #[.int .i64 0] 3)
      rw [set_size] at e
      rw [show (putX w2 r (.slice A' n c')).heap[w2.heap.size]? = _ from e] at hcb
      injection hcb with hcb; injection hcb with _ hcb; cases hcb
    rw [Below.heap_setCell _ _ _ _ (show b ≠ w.heap.size + 1 from hne1), hM.old b hb hne1 hne2]
    exact hcb
  · rintro e u' w5 ⟨rfl, rfl, A2, c2, w4, hb4, rfl⟩
    have hs4 := hb4.size
    rw [set_size] at hs4
    have hbl4 := bkeep hb3 hb4 (by rw [set_size]; omega)
    have hbl5 := bother hbl4 (show w.heap.size + 1 ≠ r by omega) 0 (.slice A2 (n - (runL (l.length + 1) l {}).1.used) c2)
    refine ⟨rfl, rfl, put_post r n c' A' l w w2 w' (w4.setCell ⟨r, 0, none⟩ (.slice A2 (n - (runL (l.length + 1) l {}).1.used) c2)) l1 hg hM hr' (fun k hk h1 h2 => ?_) (by simp only [set_size]; omega) hb4.os hb4.tape hb4.output lv hlv ⟨A2, c2, ?_⟩, by rw [bcell hbl5]; simp⟩
    · rw [Below.heap_setCell _ _ _ _ (show k ≠ r from h2), hb4.block k (by rw [set_size]; omega), Below.heap_setCell _ _ _ _ (show k ≠ w.heap.size + 1 from h1)]
    · have := bstore (bkeep (bother hr' (by omega : r ≠ w.heap.size + 1) 0 lv) hb4 (by rw [set_size]; omega)) 0 (.slice A2 (n - (runL (l.length + 1) l {}).1.used) c2)
      rw [hR, ← hn]
      rw [← hn] at this
      simpa using this

/-- Put's closure, where something was wrong. -/
theorem put_caught (r n c' : Nat) (A' : Option Addr) (l : Str) (w w2 w' : World) (l1 : r < w.heap.size) (hg : (putW w r).grownBy w2 none) (hr : w.heap[r]? = some (.cells #[.slice none 0 0, .bool false] 44 (0, 0)))
    (hR : (runL (l.length + 1) l {}).2 = false)
    (hM : MI (putX w2 r (.slice A' n c')) (w.heap.size + 1) w2.heap.size (runL (l.length + 1) l {}).1 w') (lv : Value) (hlv : w'.heap[w.heap.size + 1]? = some (.cells #[lv] 24 (0, 0))) :
    CallsD Tryd.prog 15 #[.pointer (some ⟨w.heap.size, 0, none⟩), .pointer (some ⟨w2.heap.size, 0, none⟩)] (.panicking [{ v := wrongV, recovered := false }]) w' fun e u' w5 =>
      e = .returned (.tuple #[]) ∧ u' = .panicking [{ v := wrongV, recovered := true }] ∧ PutPost r l w (.returned lv) w5 ∧ w5.cell? ⟨w.heap.size + 1, 0, none⟩ = some lv := by
  obtain ⟨hr', hrb'⟩ := put_held r n c' A' l w w2 w' l1 hg hr hM
  have hs := hg.size
  have hs0 : (putW w r).heap.size = w.heap.size + 2 := by simp
  have hs1 : (putX w2 r (.slice A' n c')).heap.size = w2.heap.size + 1 := by simp [set_size]
  have hz := hM.size
  refine (caught_any r w.heap.size w2.heap.size _ false w' hrb' hr').mono ?_
  rintro e u' w5 ⟨rfl, rfl, rfl⟩
  have hbl5 := bold (bother (bother hlv (show w.heap.size + 1 ≠ r by omega) 0 (.slice none 0 0)) (show w.heap.size + 1 ≠ r by omega) 1 (.bool true)) (.cells #[] 46)
  refine ⟨rfl, rfl, put_post r n c' A' l w w2 w' (((w'.setCell ⟨r, 0, none⟩ (.slice none 0 0)).setCell ⟨r, 1, none⟩ (.bool true)).alloc (.cells #[] 46)) l1 hg hM hr' (fun k hk h1 h2 => ?_) (by simp [set_size]) rfl rfl rfl lv hlv ⟨none, 0, ?_⟩, by rw [bcell hbl5]; simp⟩
  · rw [Below.heap_alloc _ _ _ (by simp only [set_size]; omega), Below.heap_setCell _ _ _ _ (show k ≠ r from h2), Below.heap_setCell _ _ _ _ (show k ≠ r from h2)]
  · have := bold (bstore (bstore hr' 0 (.slice none 0 0)) 1 (.bool true)) (.cells #[] 46)
    rw [hR]
    simpa using this

set_option maxRecDepth 100000 in
set_option maxHeartbeats 2000000 in
theorem put_any (r : Nat) (A : Option Addr) (n c : Nat) (l : Str) (w : World) (hG : G w) (h8 : 8 ≤ r) (hr : w.heap[r]? = some (.cells #[.slice none 0 0, .bool false] 44 (0, 0)))
    (hn : l.length = n) (hrd : Rd w.heap.size w A (l.map u8v)) (hlen : n ≤ 1000000) :
    Calls Tryd.prog 10 #[.pointer (some ⟨r, 0, none⟩), .slice A n c] w (PutPost r l w) := by
  obtain ⟨i8, hi8, hz80, hz81, hz82⟩ := info_parts infoU8
  have c1 := bcell hr 0
  have c2 := bcell hr 1
  have f1 := bfree hr
  have l1 := blt hr
  have HR := Lib.hid hr
  simp only [List.getElem?_toArray, List.getElem?_cons_zero, List.getElem?_cons_succ] at c1 c2
  have HRD := Lib.hid hrd
  have HN := Lib.hid hn
  clear hr hrd hn
  have hmf : ∀ (fn : Fn) (first cap : Array Value) (w : World), (Instr.makeFunc fn first cap).run Tryd.prog w = .ok (.func fn first cap) w := fun _ _ _ _ => rfl
  go_enter_defers Tryd.func10, Tryd.ntmps10
  go_wp2
  have hbw : Below w.heap.size w (((w.alloc (.cells #[.pointer (some ⟨r, 0, none⟩)] 36)).alloc (.cells #[.slice none 0 0] 24)).drew) := (((Below.refl _ _).alloc (Nat.le_refl _) _).alloc (by simp) _).drew
  have HBW := Lib.hid hbw
  have HRD2 := Lib.hid (HRD.out.below hbw)
  have HL := Lib.hid (show (l.map u8v).length = n * 1 by simp [HN.out])
  have H1 := Lib.hid (show ∀ u ∈ l.map u8v, u.oneCell' = true by
    intro u hu
    obtain ⟨b, _, rfl⟩ := List.mem_map.1 hu
    rfl)
  have H63 := Lib.hid (show 0 + n ≤ maxLen by unfold maxLen; omega)
  have HBY := Lib.hid (show (0 + n) * 1 ≤ 140737488355328 by omega)
  have HBA := Lib.hid (show w.heap.size ≤ (((w.alloc (.cells #[.pointer (some ⟨r, 0, none⟩)] 36)).alloc (.cells #[.slice none 0 0] 24)).drew).heap.size from hbw.size)
  have HRW := Lib.hid (keep HR.out hbw)
  have HRB := Lib.hid (show (((w.alloc (.cells #[.pointer (some ⟨r, 0, none⟩)] 36)).alloc (.cells #[.slice none 0 0] 24)).drew).heap[w.heap.size]? = some (.cells #[.pointer (some ⟨r, 0, none⟩)] 36 (0, 0)) from bold (bnew w _) _)
  clear hbw
  refine wp_region_noPanic ?_
  go_region_law (refine step_append_rd _ rfl (.tmp 18) (.tmp 19) 22 rfl w.heap.size 5 i8 _ 1 1 Tryd.underlying22 hi8 hz80 hz81 hz82 rfl (by decide) (.slice none 0 0) 0 [] (by simp [Act.eval, Act.put]) (World.ownsRow_nil _ _ _ _) w.heap.size A n c (l.map u8v) (by simp [Act.eval, Act.put]) HL.out HRD2.out H1.out H63.out HBY.out HBA.out ?_; intro v' w2 hown2 hgrow2 _; have k0 := (hgrow2.block r (blt HRW.out) (by simp [Value.ownBlock])).trans HRW.out; have k1 := bcell k0 0; have k2 := bfree k0 0; have K0 := Lib.hid k0; have k00 := (hgrow2.block w.heap.size (blt HRB.out) (by simp [Value.ownBlock])).trans HRB.out; have k3 := bcell k00 0; have K00 := Lib.hid k00; simp only [List.getElem?_toArray, List.getElem?_cons_zero, List.getElem?_cons_succ] at k1 k3; clear k0 k00; have HO2 := Lib.hid hown2; have HG2 := Lib.hid hgrow2; obtain ⟨A', c', rfl, hc'⟩ := own_slice hown2; clear hown2 hgrow2)
  all_goals simp only [NoPanic, Exit.then]
  all_goals
    have hne : w.heap.size ≠ r := by omega
    have d0 := bold (bother K00.out hne 0 (.slice A' (0 + n) c')) (.cells #[.int .i64 0] 3)
    have d1 := bold (bstore K0.out 0 (.slice A' (0 + n) c')) (.cells #[.int .i64 0] 3)
    have D0 := Lib.hid d0
    have D1 := Lib.hid d1
    have e0 := bcell d0 0
    have e1 := bcell d1 0
    have f3 := bfree d1
    simp only [List.getElem?_toArray, List.getElem?_cons_zero, List.getElem?_cons_succ, List.setIfInBounds_toArray, List.set_cons_zero, Nat.zero_add] at e0 e1
    clear d0 d1 k1 k2 k3 c1 c2 f1
    go_wp2_with fail
    go_at_call 17
    have hc2 : n ≤ c' := by omega
    refine (put_all r n c' A' l w w2 hG h8 l1 HN.out hlen (by simpa using HO2.out) HG2.out hc2).mono ?_
    rintro e w' (⟨rfl, hR, hM⟩ | ⟨rfl, hR, hM⟩)
    · obtain ⟨lv, hlv⟩ : ∃ lv, w'.heap[w.heap.size + 1]? = some (.cells #[lv] 24 (0, 0)) := by
        obtain ⟨_, _, _, lv, _, _, _, _, h, _⟩ := hM.rest
        exact ⟨lv, h⟩
      have HI := Lib.hid (put_idle r n c' A' l w w2 w' l1 HN.out hlen HG2.out HR.out (by simpa using HO2.out) hc2 hR hM lv hlv)
      have b0 := bcell hlv 0
      have b1 := bfree hlv 0
      obtain ⟨A9, n9, c9, rfl⟩ : ∃ A9 n9 c9, lv = .slice A9 n9 c9 := by
        obtain ⟨_, _, _, lv', _, _, _, _, h, ⟨css, hx, -⟩, -⟩ := hM.rest
        rw [hlv] at h
        injection h with h
        injection h with h
        obtain ⟨A9, c9, e, _⟩ := own_slice hx
        have h' : lv = lv' := by simpa using h
        exact ⟨A9, _, c9, h'.trans e⟩
      simp only [List.getElem?_toArray, List.getElem?_cons_zero] at b0
      clear hM hlv hR
      go_wp2
      refine leaves_cons (f := 15) (args := #[.pointer (some ⟨w.heap.size, 0, none⟩), .pointer (some ⟨w2.heap.size, 0, none⟩)]) (by simp) (by simp [go_sem]) ?_
      refine HI.out.mono ?_
      rintro e u' w5 ⟨rfl, rfl, hP, hcell⟩
      have HP := Lib.hid hP
      clear hP HI HO2 HG2 HR HRD HN D0 D1 K0 K00 HRB HRW HBW HRD2 HL H1 H63 HBY HBA
      simp [Leaves, settle, results, Tryd.results10, go_sem, hcell]
      exact HP.out
    · obtain ⟨lv, hlv⟩ : ∃ lv, w'.heap[w.heap.size + 1]? = some (.cells #[lv] 24 (0, 0)) := by
        obtain ⟨_, _, _, lv, _, _, _, _, h, _⟩ := hM.rest
        exact ⟨lv, h⟩
      have HI := Lib.hid (put_caught r n c' A' l w w2 w' l1 HG2.out HR.out hR hM lv hlv)
      clear hM hlv hR
      go_wp2
      refine leaves_cons (f := 15) (args := #[.pointer (some ⟨w.heap.size, 0, none⟩), .pointer (some ⟨w2.heap.size, 0, none⟩)]) (by simp) (by simp [go_sem]) ?_
      refine HI.out.mono ?_
      rintro e u' w5 ⟨rfl, rfl, hP, hcell⟩
      have HP := Lib.hid hP
      clear hP HI HO2 HG2 HR HRD HN D0 D1 K0 K00 HRB HRW HBW HRD2 HL H1 H63 HBY HBA
      simp [Leaves, settle, results, Tryd.results10, go_sem, hcell]
      exact HP.out
end Go.Proofs.YtmdcedbnlbcdjaaDoor
