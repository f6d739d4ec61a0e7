/- What 'all' holds of memory, and that it stays. -/
import Derived.Test.YtmdcedbnlbcdjaaDoorMReplyF
namespace Go.Proofs.YtmdcedbnlbcdjaaDoor
open Go Go.RowKit Go.My Go.Shelf

/-- What all of it holds of memory between two lines. -/
structure MI (w0 : World) (bl bu : Nat) (st : St) (W : World) : Prop where
  tell : W.heap[w0.heap.size]? = some (.cells #[.func (.func 18) #[] #[.pointer (some ⟨bl, 0, none⟩), .pointer (some ⟨bu, 0, none⟩)]] 50 (0, 0))
  at_ : W.heap[w0.heap.size + 2]? = some (.cells #[.int .i64 st.at_] 3 (0, 0))
  used : W.heap[bu]? = some (.cells #[.int .i64 st.used] 3 (0, 0))
  rest : ∃ N A c lv, W.heap[w0.heap.size + 1]? = some (.cells (repC st.code A st.xl.length c (0, 0, 0)) 33 (0, 0)) ∧ W.ownsRow N 9 1 (.slice A st.xl.length c) st.xl.length (strs st.xl) ∧
    w0.heap.size + 6 ≤ N ∧ N ≤ W.heap.size ∧ W.heap[bl]? = some (.cells #[lv] 24 (0, 0)) ∧ Reps (w0.heap.size + 6) N W lv st.told ∧ ∀ k, lv.ownBlock = some k → k < N
  os : W.os = w0.os
  tape : W.tape = w0.tape
  output : W.output = w0.output
  size : w0.heap.size + 6 ≤ W.heap.size
  old : ∀ k, k < w0.heap.size → k ≠ bl → k ≠ bu → W.heap[k]? = w0.heap[k]?
  lt : bl < w0.heap.size ∧ bu < w0.heap.size ∧ bl ≠ bu
  side : ∀ k cs fr, w0.heap.size + 3 ≤ k → k < w0.heap.size + 6 → W.heap[k]? ≠ some (.cells cs 9 fr)

theorem own_same {w w' : World} {base : Nat} {e : TypeId} {size : Nat} {v : Value} {n : Nat} {xs : List Value} (h : w.ownsRow base e size v n xs) (hk : ∀ k, v.ownBlock = some k → w'.heap[k]? = w.heap[k]?) : w'.ownsRow base e size v n xs := by
  refine ⟨h.1, ?_⟩
  rcases h.2 with hn | ⟨g, cap, cur, rfl, hb, hgg, rest⟩
  · exact .inl hn
  · exact .inr ⟨g, cap, cur, rfl, hb, (hk g rfl).trans hgg, rest⟩
theorem RepAt.keep {n : Nat} {w w' : World} {cs : List Value} {r : Rep} (h : RepAt n w cs r) (hk : KeepT n 9 w w') : RepAt n w' cs r := by
  obtain ⟨A, c, h1, h2, h3⟩ := h
  exact ⟨A, c, h1, h2, h3.keep hk⟩
theorem Reps.keep {base n : Nat} {w w' : World} {v : Value} {rs : List Rep} (h : Reps base n w v rs) (hv : ∀ k, v.ownBlock = some k → w'.heap[k]? = w.heap[k]?) (hk : KeepT n 9 w w') : Reps base n w' v rs := by
  obtain ⟨css, h1, h2, h3⟩ := h
  exact ⟨css, own_same h1 hv, h2, fun i cs r hc hr => (h3 i cs r hc hr).keep hk⟩
theorem Reps.base {base n : Nat} {w : World} {v : Value} {rs : List Rep} (h : Reps base n w v rs) : ∀ k, v.ownBlock = some k → base ≤ k := by
  obtain ⟨css, h1, -⟩ := h
  exact fun k hk => (h1.lt k hk).1

/-- Where nothing of it is turned. -/
theorem MI.same {w0 W W' : World} {bl bu : Nat} {st : St} (h : MI w0 bl bu st W) (hs : W.heap.size ≤ W'.heap.size) (hos : W'.os = W.os) (ht : W'.tape = W.tape) (ho : W'.output = W.output)
    (hk : ∀ k, k < W.heap.size → k < w0.heap.size + 3 ∨ w0.heap.size + 6 ≤ k → W'.heap[k]? = W.heap[k]?)
    (hside : ∀ k cs fr, w0.heap.size + 3 ≤ k → k < w0.heap.size + 6 → W'.heap[k]? ≠ some (.cells cs 9 fr)) : MI w0 bl bu st W' := by
  have hz := h.size
  obtain ⟨N, A, c, lv, h1, h2, h3, h4, h5, h6, h7⟩ := h.rest
  refine ⟨(hk _ (by omega) (by omega)).trans h.tell, (hk _ (by omega) (by omega)).trans h.at_, (hk _ (by have := h.lt; omega) (by have := h.lt; omega)).trans h.used, ⟨N, A, c, lv, (hk _ (by omega) (by omega)).trans h1, own_same h2 ?_, h3, by omega, (hk _ (by have := h.lt; omega) (by have := h.lt; omega)).trans h5, h6.keep ?_ ?_, h7⟩, hos.trans h.os, ht.trans h.tape, ho.trans h.output, by omega, fun k hk1 hk2 hk3 => (hk k (by omega) (by omega)).trans (h.old k hk1 hk2 hk3), h.lt, hside⟩
  · intro k e
    have := h2.lt k e
    exact hk k this.2 (by omega)
  · intro k e
    have := h7 k e
    exact hk k (by omega) (.inr (h6.base k e))
  · intro b cs fr hb hc
    rcases Nat.lt_or_ge b (w0.heap.size + 3) with h' | h'
    · exact (hk b (by omega) (.inl h')).trans hc
    · rcases Nat.lt_or_ge b (w0.heap.size + 6) with h'' | h''
      · exact absurd hc (h.side b cs fr h' h'')
      · exact (hk b (by omega) (.inr h'')).trans hc
theorem MI.below {w0 W W' : World} {bl bu : Nat} {st : St} (h : MI w0 bl bu st W) (hb : Below W.heap.size W W') : MI w0 bl bu st W' :=
  h.same hb.size hb.os hb.tape hb.output (fun k hk _ => hb.block k hk) fun k cs fr h1 h2 => by
    rw [hb.block k (by have := h.size; omega)]
    exact h.side k cs fr h1 h2
theorem MI.below8 {w0 W : World} {bl bu : Nat} {st : St} (h : MI w0 bl bu st W) (hl : 8 ≤ bl) (hu : 8 ≤ bu) (h8 : 8 ≤ w0.heap.size) : Below 8 w0 W :=
  ⟨h.os, h.tape, h.output, by have := h.size; omega, fun k hk => h.old k (by omega) (by omega) (by omega)⟩
theorem MI.g {w0 W : World} {bl bu : Nat} {st : St} (h : MI w0 bl bu st W) (hG : G w0) (hl : 8 ≤ bl) (hu : 8 ≤ bu) : G W := hG.below (h.below8 hl hu hG.size) (Nat.le_refl _)

/-- What stays of the blocks between. -/
def Side (w0 W W' : World) : Prop := ∀ k, w0.heap.size + 3 ≤ k → k < w0.heap.size + 6 → W'.heap[k]? = W.heap[k]?

/-- A line more is read. -/
theorem MI.dash {w0 W w1 w2 : World} {bl bu : Nat} {st : St} {N : Nat} {A1 : Option Addr} {c1 : Nat} {lv : Value} {t : ByteArray} {o : Obj} {g' cap' : Nat} (h : MI w0 bl bu st W)
    (h1 : W.heap[w0.heap.size + 1]? = some (.cells (repC st.code A1 st.xl.length c1 (0, 0, 0)) 33 (0, 0))) (h2 : W.ownsRow N 9 1 (.slice A1 st.xl.length c1) st.xl.length (strs st.xl))
    (h3 : w0.heap.size + 6 ≤ N) (h4 : N ≤ W.heap.size) (h5 : W.heap[bl]? = some (.cells #[lv] 24 (0, 0))) (h6 : Reps (w0.heap.size + 6) N W lv st.told) (h7 : ∀ k, lv.ownBlock = some k → k < N)
    (hb1 : Below W.heap.size W w1) (hg : (w1.alloc o).drew.grownBy w2 (Value.slice A1 st.xl.length c1).ownBlock)
    (ho : w2.ownsRow N 9 1 (.slice (some ⟨g', 0, none⟩) (st.xl.length + 1) cap') (st.xl.length + 1) (strs st.xl ++ [.string t]))
    (v : Int) (sz : Nat) (at' : Int) (hat : at' = ((st.at_ + sz : Nat) : Int)) :
    MI w0 bl bu { st with code := v, xl := st.xl ++ [t], at_ := st.at_ + sz } (((w2.setCell ⟨w0.heap.size + 1, 0, none⟩ (.int .i64 v)).setCell ⟨w0.heap.size + 1, 1, none⟩ (.slice (some ⟨g', 0, none⟩) (st.xl.length + 1) cap')).setCell ⟨w0.heap.size + 2, 0, none⟩ (.int .i64 at')) ∧
      Side w0 W (((w2.setCell ⟨w0.heap.size + 1, 0, none⟩ (.int .i64 v)).setCell ⟨w0.heap.size + 1, 1, none⟩ (.slice (some ⟨g', 0, none⟩) (st.xl.length + 1) cap')).setCell ⟨w0.heap.size + 2, 0, none⟩ (.int .i64 at')) := by
  have hs1 := hb1.size
  have hs2 := hg.size
  have hs3 : (w1.alloc o).drew.heap.size = w1.heap.size + 1 := by simp
  have hlt := h.lt
  have e2 : ∀ k, k < N → w2.heap[k]? = W.heap[k]? := fun k hk => by
    rw [hg.block k (by omega) (fun e => by have := (h2.lt k e.symm).1; omega)]
    exact (Below.heap_alloc w1 o k (by omega)).trans (hb1.block k (by omega))
  have e3 : ∀ k, k < N → k ≠ w0.heap.size + 1 → k ≠ w0.heap.size + 2 → (((w2.setCell ⟨w0.heap.size + 1, 0, none⟩ (.int .i64 v)).setCell ⟨w0.heap.size + 1, 1, none⟩ (.slice (some ⟨g', 0, none⟩) (st.xl.length + 1) cap')).setCell ⟨w0.heap.size + 2, 0, none⟩ (.int .i64 at')).heap[k]? = W.heap[k]? := fun k hk ha hb => by
    rw [Below.heap_setCell _ _ _ _ (show k ≠ w0.heap.size + 2 from hb), Below.heap_setCell _ _ _ _ (show k ≠ w0.heap.size + 1 from ha), Below.heap_setCell _ _ _ _ (show k ≠ w0.heap.size + 1 from ha)]
    exact e2 k hk
  have hz := h.size
  refine ⟨⟨(e3 _ (by omega) (by omega) (by omega)).trans h.tell, ?_, (e3 _ (by omega) (by omega) (by omega)).trans h.used, ⟨N, some ⟨g', 0, none⟩, cap', lv, ?_, ?_, h3, ?_, (e3 _ (by omega) (by omega) (by omega)).trans h5, h6.keep ?_ ?_, h7⟩, ?_, ?_, ?_, ?_, ?_, h.lt, ?_⟩, fun k ha hb => e3 k (by omega) (by omega) (by omega)⟩
  · have := bstore (bother (bother ((e2 _ (by omega)).trans h.at_) (show w0.heap.size + 2 ≠ w0.heap.size + 1 by omega) 0 (.int .i64 v)) (show w0.heap.size + 2 ≠ w0.heap.size + 1 by omega) 1 (.slice (some ⟨g', 0, none⟩) (st.xl.length + 1) cap')) 0 (.int .i64 at')
    rw [hat] at *
    simpa using this
  · have := bother (bstore (bstore ((e2 _ (by omega)).trans h1) 0 (.int .i64 v)) 1 (.slice (some ⟨g', 0, none⟩) (st.xl.length + 1) cap')) (show w0.heap.size + 1 ≠ w0.heap.size + 2 by omega) 0 (.int .i64 at')
    simpa [repC] using this
  · have := own_far (own_far (own_far ho (show w0.heap.size + 1 < N by omega) 0 (.int .i64 v)) (show w0.heap.size + 1 < N by omega) 1 (.slice (some ⟨g', 0, none⟩) (st.xl.length + 1) cap')) (show w0.heap.size + 2 < N by omega) 0 (.int .i64 at')
    simpa [strs] using this
  · simp only [set_size]; omega
  · intro k e
    have := h6.base k e
    exact e3 k (h7 k e) (by omega) (by omega)
  · intro b cs fr hb hc
    refine (e3 b hb ?_ ?_).trans hc
    · rintro rfl; rw [h1] at hc; injection hc with hc; injection hc with _ hc; cases hc
    · rintro rfl; rw [h.at_] at hc; injection hc with hc; injection hc with _ hc; cases hc
  · exact hg.os.trans (hb1.os.trans h.os)
  · exact hg.tape.trans (hb1.tape.trans h.tape)
  · exact hg.output.trans (hb1.output.trans h.output)
  · simp only [set_size]; omega
  · intro k k1 k2 k3
    exact (e3 k (by omega) (by omega) (by omega)).trans (h.old k k1 k2 k3)
  · intro k cs fr k1 k2
    rw [e3 k (by omega) (by omega) (by omega)]
    exact h.side k cs fr k1 k2
theorem set_os (w : World) (a : Addr) (v : Value) : (w.setCell a v).os = w.os := rfl
theorem set_tape (w : World) (a : Addr) (v : Value) : (w.setCell a v).tape = w.tape := rfl
theorem set_output (w : World) (a : Addr) (v : Value) : (w.setCell a v).output = w.output := rfl
theorem told_more {n : Nat} {w : World} {css : List (List Value)} {x : List Value} {rs : List Rep} {r : Rep} (hl : css.length = rs.length) (h : ∀ (i : Nat) (cs : List Value) (r : Rep), css[i]? = some cs → rs[i]? = some r → RepAt n w cs r) (hx : RepAt n w x r) :
    ∀ (i : Nat) (cs : List Value) (r' : Rep), (css ++ [x])[i]? = some cs → (rs ++ [r])[i]? = some r' → RepAt n w cs r' := by
  intro i cs r' h1 h2
  rcases Nat.lt_trichotomy i css.length with hi | hi | hi
  · rw [List.getElem?_append_left hi] at h1
    rw [List.getElem?_append_left (by omega)] at h2
    exact h i cs r' h1 h2
  · subst hi
    rw [List.getElem?_concat_length] at h1
    rw [hl, List.getElem?_concat_length] at h2
    injection h1 with h1
    injection h2 with h2
    rw [← h1, ← h2]
    exact hx
  · rw [List.getElem?_eq_none (by simp; omega)] at h1
    cases h1

/-- An answer is told, and the next one begins. -/
theorem MI.tells {w0 W3 w5 Wf : World} {bl bu : Nat} {st : St} {A : Option Addr} {N c : Nat} {lv lv5 : Value} {css : List (List Value)} {m : Int × Int × Int} (h : MI w0 bl bu st W3)
    (hx : W3.heap[w0.heap.size + 1]? = some (.cells (repC st.code A st.xl.length c (0, 0, 0)) 33 (0, 0))) (hown : W3.ownsRow N 9 1 (.slice A st.xl.length c) st.xl.length (strs st.xl))
    (hN2 : N ≤ W3.heap.size) (hbl : W3.heap[bl]? = some (.cells #[lv] 24 (0, 0)))
    (ho : W3.ownsRow (w0.heap.size + 6) 33 5 lv css.length css.flatten) (hl : css.length = st.told.length) (hrep : ∀ (i : Nat) (cs : List Value) (r : Rep), css[i]? = some cs → st.told[i]? = some r → RepAt N W3 cs r)
    (hcl : st.xl.length ≤ c)
    (hbl5 : w5.heap[bl]? = some (.cells #[lv5] 24 (0, 0))) (hbu5 : w5.heap[bu]? = some (.cells #[.int .i64 st.at_] 3 (0, 0)))
    (hown5 : w5.ownsRow (w0.heap.size + 6) 33 5 lv5 (css.length + 1) (css.flatten ++ (repC st.code A st.xl.length c m).toList)) (hsz : W3.heap.size ≤ w5.heap.size) (hos : w5.os = W3.os) (htp : w5.tape = W3.tape) (hout : w5.output = W3.output)
    (hold : ∀ k, k < W3.heap.size → k ≠ bl → k ≠ bu → k ≠ w0.heap.size + 1 → some k ≠ lv.ownBlock → w5.heap[k]? = W3.heap[k]?)
    (hx5 : w5.heap[w0.heap.size + 1]? = some (.cells (repC st.code A st.xl.length c m) 33 (0, 0)))
    (hWf : Wf = ((((w5.setCell ⟨w0.heap.size + 1, 0, none⟩ (.int .i64 0)).setCell ⟨w0.heap.size + 1, 1, none⟩ (.slice none 0 0)).setCell ⟨w0.heap.size + 1, 2, none⟩ (.int .i64 0)).setCell ⟨w0.heap.size + 1, 3, none⟩ (.int .i64 0)).setCell ⟨w0.heap.size + 1, 4, none⟩ (.int .i64 0)) :
    MI w0 bl bu { code := 0, xl := [], at_ := st.at_, told := st.told ++ [⟨st.code, st.xl, m⟩], used := st.at_ } Wf ∧ Side w0 W3 Wf := by
  have hlt := h.lt
  have hz := h.size
  have hsf : Wf.heap.size = w5.heap.size := by rw [hWf]; simp only [set_size]
  have ef : ∀ k, k ≠ w0.heap.size + 1 → Wf.heap[k]? = w5.heap[k]? := fun k hk => by
    rw [hWf]
    rw [Below.heap_setCell _ _ _ _ (show k ≠ w0.heap.size + 1 from hk), Below.heap_setCell _ _ _ _ (show k ≠ w0.heap.size + 1 from hk), Below.heap_setCell _ _ _ _ (show k ≠ w0.heap.size + 1 from hk), Below.heap_setCell _ _ _ _ (show k ≠ w0.heap.size + 1 from hk), Below.heap_setCell _ _ _ _ (show k ≠ w0.heap.size + 1 from hk)]
  have hlv : ∀ k, lv.ownBlock = some k → w0.heap.size + 6 ≤ k := fun k e => (ho.lt k e).1
  have e5 : ∀ k, k < W3.heap.size → k ≠ bl → k ≠ bu → k ≠ w0.heap.size + 1 → some k ≠ lv.ownBlock → Wf.heap[k]? = W3.heap[k]? := fun k h1 h2 h3 h4 h5 => (ef k h4).trans (hold k h1 h2 h3 h4 h5)
  have e6 : ∀ k, k < w0.heap.size + 6 → k ≠ bl → k ≠ bu → k ≠ w0.heap.size + 1 → Wf.heap[k]? = W3.heap[k]? := fun k h1 h2 h3 h4 => e5 k (by omega) h2 h3 h4 fun e => by have := hlv k e.symm; omega
  have hxf : Wf.heap[w0.heap.size + 1]? = some (.cells (repC 0 none 0 0 (0, 0, 0)) 33 (0, 0)) := by
    have := bstore (bstore (bstore (bstore (bstore hx5 0 (.int .i64 0)) 1 (.slice none 0 0)) 2 (.int .i64 0)) 3 (.int .i64 0)) 4 (.int .i64 0)
    rw [hWf]
    simpa [repC] using this
  have hown5f : Wf.ownsRow (w0.heap.size + 6) 33 5 lv5 (css.length + 1) (css.flatten ++ (repC st.code A st.xl.length c m).toList) :=
    own_same hown5 fun k e => ef k (by have := (hown5.lt k e).1; omega)
  have hkeep : KeepT W3.heap.size 9 W3 Wf := by
    intro b cs fr hb hc
    refine (e5 b hb ?_ ?_ ?_ ?_).trans hc
    · rintro rfl; rw [hbl] at hc; injection hc with hc; injection hc with _ hc; cases hc
    · rintro rfl; rw [h.used] at hc; injection hc with hc; injection hc with _ hc; cases hc
    · rintro rfl; rw [hx] at hc; injection hc with hc; injection hc with _ hc; cases hc
    · intro e
      rcases ho.2 with ⟨h1, _⟩ | ⟨g, cap, cur, h1, _, hg, _⟩
      · rw [h1] at e; cases e
      · rw [h1] at e
        injection e with e
        have e' : b = g := e
        rw [e', hg] at hc; injection hc with hc; injection hc with _ hc; cases hc
  have hkeepN : KeepT N 9 W3 Wf := fun b cs fr hb hc => hkeep b cs fr (by omega) hc
  refine ⟨⟨(e6 _ (by omega) (by omega) (by omega) (by omega)).trans h.tell, (e6 _ (by omega) (by omega) (by omega) (by omega)).trans h.at_, (ef _ (by omega)).trans hbu5,
    ⟨Wf.heap.size, none, 0, lv5, hxf, World.ownsRow_nil _ _ _ _, by omega, Nat.le_refl _, (ef _ (by omega)).trans hbl5, ⟨css ++ [(repC st.code A st.xl.length c m).toList], ?_, by simp [hl], ?_⟩, ?_⟩, ?_, ?_, ?_, by omega, ?_, h.lt, ?_⟩, fun k ha hb => e6 k (by omega) (by omega) (by omega) (by omega)⟩
  · simpa using hown5f
  · refine told_more hl (fun i cs r h1 h2 => ?_) ?_
    · obtain ⟨A', c', h3, h4, h5⟩ := hrep i cs r h1 h2
      exact ⟨A', c', h3, h4, (h5.keep hkeepN).mono (by omega)⟩
    · exact ⟨A, c, rfl, hcl, ((RdT.owned hown).keep hkeep).mono (by omega)⟩
  · intro k e
    exact (hown5f.lt k e).2
  · rw [hWf]; simp only [set_os]; exact hos.trans h.os
  · rw [hWf]; simp only [set_tape]; exact htp.trans h.tape
  · rw [hWf]; simp only [set_output]; exact hout.trans h.output
  · intro k k1 k2 k3
    exact (e6 k (by omega) k2 k3 (by omega)).trans (h.old k k1 k2 k3)
  · intro k cs fr k1 k2
    rw [e6 k (by omega) (by omega) (by omega) (by omega)]
    exact h.side k cs fr k1 k2
end Go.Proofs.YtmdcedbnlbcdjaaDoor
