/- all: the answers of bytes that are whole. -/
import Derived.Test.YtmdcedbnlbcdjaaDoorMReplyI
import Derived.Test.YtmdcedbnlbcdjaaDoorMReplyJ
namespace Go.Proofs.YtmdcedbnlbcdjaaDoor
open Go Go.RowKit Go.My Go.Shelf
attribute [local go_sem] Oper.semAt_some

/-- What is kept between two lines. -/
structure JI (w : World) (bl bu : Nat) (tot : Nat) (R : St × Bool) (recR : Obj) (rest : Str) (W : World) : Prop where
  run : ∃ k st, rest.length < k ∧ runL k rest st = R ∧ MI w bl bu st W ∧ st.at_ + rest.length ≤ tot ∧ st.told.length ≤ st.at_
  bb : ∃ v, W.heap[w.heap.size + 3]? = some (.cells #[v] 22 (0, 0))
  dd : W.heap[w.heap.size + 4]? = some (.deferred (some []))
  rr : W.heap[w.heap.size + 5]? = some recR
  noc : recR.isCells = false

theorem MI.noside {w0 W : World} (v : Value) (hb : W.heap[w0.heap.size + 3]? = some (.cells #[v] 22 (0, 0))) (hd : ∀ cs fr, W.heap[w0.heap.size + 4]? ≠ some (.cells cs 9 fr)) (hr : ∀ cs fr, W.heap[w0.heap.size + 5]? ≠ some (.cells cs 9 fr)) :
    ∀ k cs fr, w0.heap.size + 3 ≤ k → k < w0.heap.size + 6 → W.heap[k]? ≠ some (.cells cs 9 fr) := by
  intro k cs fr h1 h2 h3
  rcases (show k = w0.heap.size + 3 ∨ k = w0.heap.size + 4 ∨ k = w0.heap.size + 5 by omega) with rfl | rfl | rfl
  · rw [hb] at h3; injection h3 with h3; injection h3 with _ h3; cases h3
  · exact hd cs fr h3
  · exact hr cs fr h3

theorem JI.set {w : World} {bl bu tot : Nat} {R : St × Bool} {recR : Obj} {rest : Str} {W : World} (h : JI w bl bu tot R recR rest W) (v : Value) : JI w bl bu tot R recR rest (W.setCell ⟨w.heap.size + 3, 0, none⟩ v) := by
  obtain ⟨k, st, h1, h2, h3, h4, h5⟩ := h.run
  obtain ⟨v0, hb⟩ := h.bb
  have hb' : (W.setCell ⟨w.heap.size + 3, 0, none⟩ v).heap[w.heap.size + 3]? = some (.cells #[v] 22 (0, 0)) := by simpa using bstore hb 0 v
  have hd' := bother h.dd (show w.heap.size + 4 ≠ w.heap.size + 3 by omega) 0 v
  have hr' := bother h.rr (show w.heap.size + 5 ≠ w.heap.size + 3 by omega) 0 v
  refine ⟨⟨k, st, h1, h2, h3.same (by rw [set_size]; exact Nat.le_refl _) rfl rfl rfl (fun k hk hk2 => Below.heap_setCell _ _ _ _ (show k ≠ w.heap.size + 3 by omega)) (MI.noside v hb' (fun cs fr e => by rw [hd'] at e; cases e) (fun cs fr e => ?_)), h4, h5⟩, ⟨v, hb'⟩, hd', hr', h.noc⟩
  rw [hr'] at e
  injection e with e
  have := h.noc
  rw [e] at this
  cases this

/-- The record is turned. -/
theorem MI.put {w W : World} {bl bu : Nat} {st : St} (h : MI w bl bu st W) (hb : ∃ v, W.heap[w.heap.size + 3]? = some (.cells #[v] 22 (0, 0))) (hd : W.heap[w.heap.size + 4]? = some (.deferred (some []))) (o : Obj) (ho : o.isCells = false) : MI w bl bu st (W.putObj (w.heap.size + 5) o) := by
  obtain ⟨v, hb⟩ := hb
  refine h.same (by rw [World.putObj_size]; exact Nat.le_refl _) rfl rfl rfl (fun k hk hk2 => World.putObj_heap_other (by omega)) (MI.noside v ((World.putObj_heap_other (by omega)).trans hb) (fun cs fr e => by rw [World.putObj_heap_other (by omega), hd] at e; cases e) (fun cs fr e => ?_))
  rw [World.putObj_heap_same (by have := h.size; omega)] at e
  injection e with e
  rw [e] at ho
  cases ho

theorem MI.shut2 {w W : World} {bl bu : Nat} {st : St} (h : MI w bl bu st W) : MI w bl bu st (W.putObj (w.heap.size + 4) (.deferred none)) := by
  refine h.same (by rw [World.putObj_size]; exact Nat.le_refl _) rfl rfl rfl (fun k hk hk2 => World.putObj_heap_other (by omega)) (fun k cs fr h1 h2 e => ?_)
  by_cases hk : k = w.heap.size + 4
  · subst hk
    rw [World.putObj_heap_same (by have := h.size; omega)] at e
    cases e
  · rw [World.putObj_heap_other hk] at e
    exact h.side k cs fr h1 h2 e

theorem nextLine_len {b s r : Str} (h : nextLine b = .line s r) : s.length + 2 + r.length = b.length ∧ s.length < 512 := by
  unfold nextLine at h
  split at h
  · split at h <;> cases h
  · rename_i h0
    split at h
    · rename_i hc
      injection h with h1 h2
      obtain ⟨q, hq⟩ : ∃ q : Nat, Lib.indexByte b 10 = (q : Int) := ⟨_, (Int.toNat_of_nonneg (Int.not_lt.1 h0)).symm⟩
      have hlt := (List.getElem?_eq_some_iff.1 (Lib.indexByte_some (l := b) (c := 10) (o := q) (by rw [hq])).1).1
      rw [hq] at h1 h2 hc
      have e1 : ((q : Int) - 1).toNat = q - 1 := by omega
      have e2 : ((q : Int) + 1).toNat = q + 1 := by omega
      rw [← h1, ← h2, e1, e2, List.length_take, List.length_drop]
      omega
    · cases h
theorem lineF_at (st : St) (s : Str) : (lineF st s).at_ = st.at_ + (s.length + 2) := by unfold lineF; simp only []; split <;> rfl
theorem lineF_told (st : St) (s : Str) : (lineF st s).told.length ≤ st.told.length + 1 := by unfold lineF; simp only []; split <;> simp
theorem runL_line {k : Nat} {b s r : Str} {st : St} {R : St × Bool} (h : runL k b st = R) (hb : b.length < k) (hn : nextLine b = .line s r) : (lineOk st s = true ∧ runL (k - 1) r (lineF st s) = R) ∨ (lineOk st s = false ∧ R = (st, false)) := by
  cases k with
  | zero => omega
  | succ k =>
    unfold runL at h
    rw [hn] at h
    simp only [] at h
    by_cases hl : lineOk st s = true
    · rw [if_pos hl] at h
      exact .inl ⟨hl, h⟩
    · rw [if_neg hl] at h
      exact .inr ⟨by simpa using hl, h.symm⟩
theorem runL_end {k : Nat} {b : Str} {st : St} {R : St × Bool} (h : runL k b st = R) (hb : b.length < k) : (nextLine b = .stop → R = (st, true)) ∧ (nextLine b = .bad → R = (st, false)) := by
  cases k with
  | zero => omega
  | succ k =>
    unfold runL at h
    constructor <;> intro hn <;> rw [hn] at h <;> exact h.symm

noncomputable def allAssign : Code := match Tryd.f17.body with
  | some (.seq _ (.seq _ (.seq _ (.seq _ (.block _ (.rangeFunc _ _ a _)))))) => a
  | _ => .skip
/-- The frame as the loop is entered. -/
def preTmps (A : Option Addr) (n c bl bu S : Nat) : Array Value :=
  #[.slice A n c, .func (.func 18) #[] #[.pointer (some ⟨bl, 0, none⟩), .pointer (some ⟨bu, 0, none⟩)], undef, .pointer (some ⟨S, 0, none⟩), .pointer (some ⟨S + 1, 0, none⟩), .pointer (some ⟨S + 1 + 1, 0, none⟩), undef, undef, undef, .slice A n c, .func (.func 34) #[] #[.pointer (some ⟨S + 1 + 1 + 1, 0, none⟩)], undef] ++ Array.replicate 75 undef
noncomputable def recA (A : Option Addr) (n c bl bu S : Nat) (st : LoopState) : Obj := recOf st 17 (preTmps A n c bl bu S) #[11] allAssign allBody (S + 4)

/-- How a round ends. -/
def YPost (A : Option Addr) (n c : Nat) (bl bu : Nat) (w : World) (tot : Nat) (R : St × Bool) (rest' : Str) (W : World) (e : Ending) (W' : World) : Prop :=
  (e = .returned (.bool true) ∧ JI w bl bu tot R (recA A n c bl bu w.heap.size .ready) rest' W' ∧ W'.heap[w.heap.size + 3]? = W.heap[w.heap.size + 3]? ∧ KeepT w.heap.size 5 W W') ∨
  (∃ ch, e = .panicked ch ∧ ch = [{ v := wrongV, recovered := false }] ∧ R.2 = false ∧ MI w bl bu R.1 W' ∧ W'.heap[w.heap.size + 4]? = some (.deferred (some [])))
theorem lineOk_yes (st : St) (s : ByteArray) (h : lineOk st s.data.toList = true) :
    ∃ h4 : 4 ≤ s.size, ((s[3]'(by omega)).toNat = 45 ∨ (s[3]'(by omega)).toNat = 32) ∧ st.xl.length < 100 ∧ numOk (s.data.toList.take 3) = true ∧ 200 ≤ numVal (s.data.toList.take 3) ∧ numVal (s.data.toList.take 3) ≤ 599 ∧ (st.xl.length = 0 ∨ numVal (s.data.toList.take 3) = st.code) := by
  have hl : s.data.toList.length = s.size := (Lib.size_eq s).symm
  unfold lineOk at h
  rw [hl] at h
  have h4 : 4 ≤ s.size := by
    simp only [Bool.and_eq_true, decide_eq_true_eq] at h
    exact h.1.1.1
  refine ⟨h4, ?_⟩
  rw [third s h4] at h
  have e45 : ((s[3]'(by omega)) = 45) ↔ ((s[3]'(by omega)).toNat = 45) := (UInt8.toNat_inj (b := 45)).symm
  have e32 : ((s[3]'(by omega)) = 32) ↔ ((s[3]'(by omega)).toNat = 32) := (UInt8.toNat_inj (b := 32)).symm
  simp only [Bool.and_eq_true, Bool.or_eq_true, decide_eq_true_eq, beq_iff_eq, Option.some.injEq, e45, e32] at h
  obtain ⟨⟨⟨-, h1⟩, h2⟩, ⟨⟨h3, h5⟩, h6⟩, h7⟩ := h
  exact ⟨h1, h2, h3, h5, h6, h7⟩

theorem round_ok (A : Option Addr) (n c : Nat) (bl bu : Nat) (w : World) (hbl8 : 8 ≤ bl) (hbu8 : 8 ≤ bu) (tot : Nat) (R : St × Bool) (rest s rest' : Str) (W : World) (k : Nat) (st : St)
    (hJ : JI w bl bu tot R (recA A n c bl bu w.heap.size .ready) rest W) (hnl : nextLine rest = .line s rest') (hk : rest.length < k) (hM : MI w bl bu st W) (hat : st.at_ + rest.length ≤ tot) (htold : st.told.length ≤ st.at_)
    (hrun : runL (k - 1) rest' (lineF st s) = R) (w2 : World) (hM2 : MI w bl bu (lineF st s) w2) (hside : Side w (W.putObj (w.heap.size + 5) (recA A n c bl bu w.heap.size .busy)) w2) :
    w2.heap[w.heap.size + 5]? = some (recA A n c bl bu w.heap.size .busy) ∧ YPost A n c bl bu w tot R rest' W (.returned (.bool true)) (w2.putObj (w.heap.size + 5) (recA A n c bl bu w.heap.size .ready)) := by
  obtain ⟨hll, hs512⟩ := nextLine_len hnl
  obtain ⟨v, hb⟩ := hJ.bb
  have hz := hM.size
  have hz2 := hM2.size
  have hr2 : w2.heap[w.heap.size + 5]? = some (recA A n c bl bu w.heap.size .busy) := (hside _ (by omega) (by omega)).trans (World.putObj_heap_same (by omega))
  have hb2 : w2.heap[w.heap.size + 3]? = W.heap[w.heap.size + 3]? := (hside _ (by omega) (by omega)).trans (World.putObj_heap_other (by omega))
  have hd2 : w2.heap[w.heap.size + 4]? = some (.deferred (some [])) := ((hside _ (by omega) (by omega)).trans (World.putObj_heap_other (by omega))).trans hJ.dd
  refine ⟨hr2, .inl ⟨rfl, ⟨⟨k - 1, lineF st s, by omega, hrun, hM2.put ⟨v, hb2.trans hb⟩ hd2 _ rfl, ?_, ?_⟩, ⟨v, ?_⟩, ?_, World.putObj_heap_same (by omega), rfl⟩, ?_, ?_⟩⟩
  · rw [lineF_at]; omega
  · have := lineF_told st s
    rw [lineF_at]; omega
  · exact (World.putObj_heap_other (by omega)).trans (hb2.trans hb)
  · exact (World.putObj_heap_other (by omega)).trans hd2
  · exact (World.putObj_heap_other (by omega)).trans hb2
  · intro b cs fr hlt hc
    have hnb : b ≠ bl := by
      rintro rfl
      obtain ⟨_, _, _, lv, _, _, _, _, h5, _⟩ := hM.rest
      rw [h5] at hc; injection hc with hc; injection hc with _ hc; cases hc
    have hnu : b ≠ bu := by
      rintro rfl
      rw [hM.used] at hc; injection hc with hc; injection hc with _ hc; cases hc
    rw [World.putObj_heap_other (by omega), hM2.old b hlt hnb hnu, ← hM.old b hlt hnb hnu]
    exact hc

set_option maxRecDepth 100000 in
/-- One line: a round. -/
theorem all_yield (A : Option Addr) (n c : Nat) (bl bu : Nat) (w : World) (hG : G w) (hbl8 : 8 ≤ bl) (hbu8 : 8 ≤ bu) (tot : Nat) (htot : tot ≤ 2000000) (R : St × Bool) (rest s rest' : Str) (W : World)
    (hJ : JI w bl bu tot R (recA A n c bl bu w.heap.size .ready) rest W) (hnl : nextLine rest = .line s rest') :
    YieldAt Fence.wide 8 Tryd.prog (w.heap.size + 5) #[strv s] W (YPost A n c bl bu w tot R rest' W) := by
  obtain ⟨k, st, hk, hR, hM, hat, htold⟩ := hJ.run
  obtain ⟨hll, hs512⟩ := nextLine_len hnl
  refine yield_ready (tmps := preTmps A n c bl bu w.heap.size) (ps := #[11]) (assign := allAssign) (body := allBody) (D := w.heap.size + 4) Tryd.func17 hJ.rr rfl ?_
  have hMp : MI w bl bu st (W.putObj (w.heap.size + 5) (recA A n c bl bu w.heap.size .busy)) := hM.put hJ.bb hJ.dd _ rfl
  have hlen : (⟨s.toArray⟩ : ByteArray).size = s.length := by simp [ByteArray.size]
  have hbody : allBody.wpIn (Fence.wide.inRound (w.heap.size + 5)) 8 Tryd.prog (fun
          | .normal, _, w₂ => w₂.heap[w.heap.size + 5]? = some (recA A n c bl bu w.heap.size .busy) ∧ YPost A n c bl bu w tot R rest' W (.returned (.bool true)) (w₂.putObj (w.heap.size + 5) (recA A n c bl bu w.heap.size .ready))
          | .panic ch, a₂, w₂ => a₂.defers = [] ∧ YPost A n c bl bu w tot R rest' W (.panicked ch) w₂
          | _, _, _ => False) { tmps := roundTmps A n c bl bu w.heap.size (strv s), defers := [] } (W.putObj (w.heap.size + 5) (recA A n c bl bu w.heap.size .busy)) := by
    rcases runL_line hR hk hnl with ⟨hok, hrun⟩ | ⟨hno, hbad⟩
    · obtain ⟨h4, h3, hx, hn, h200, h599, hxc⟩ := lineOk_yes st ⟨s.toArray⟩ hok
      rcases h3 with h3 | h3
      · refine wpIn_mono (body_dash (w.heap.size + 5) A n c bl bu w _ st ⟨s.toArray⟩ hMp (hMp.g hG hbl8 hbu8) h4 h3 hx hn h200 h599 hxc (by omega) (by omega)) ?_
        rintro e a w2 ⟨rfl, hM2, hside⟩
        exact round_ok A n c bl bu w hbl8 hbu8 tot R rest s rest' W k st hJ hnl hk hM hat htold hrun w2 hM2 hside
      · refine wpIn_mono (body_space (w.heap.size + 5) A n c bl bu w _ st ⟨s.toArray⟩ hMp hG hbl8 hbu8 h4 h3 hx hn h200 h599 hxc (by omega) (by omega) (by omega)) ?_
        rintro e a w2 ⟨rfl, hM2, hside⟩
        exact round_ok A n c bl bu w hbl8 hbu8 tot R rest s rest' W k st hJ hnl hk hM hat htold hrun w2 hM2 hside
    · refine wpIn_mono (body_no (w.heap.size + 5) A n c bl bu w _ st ⟨s.toArray⟩ hMp hG hbl8 hbu8 hno (by omega)) ?_
      rintro e a w2 ⟨rfl, hd, hM2, hside⟩
      exact ⟨hd, .inr ⟨_, rfl, rfl, by rw [hbad], by rw [hbad]; exact hM2, ((hside _ (by omega) (by omega)).trans (World.putObj_heap_other (by omega))).trans hJ.dd⟩⟩
  dsimp only [allAssign, Tryd.f17, preTmps]
  simp only [Array.replicate_succ, Array.replicate_zero, List.push_toArray, List.append_toArray, List.nil_append, List.cons_append]
  have hb2 := hbody
  dsimp only [recA, preTmps, roundTmps] at hb2
  simp only [Array.replicate_succ, Array.replicate_zero, List.push_toArray, List.append_toArray, List.nil_append, List.cons_append] at hb2
  clear hbody
  have HB2 := Lib.hid hb2
  clear hb2
  gi_wp2
  refine ⟨trivial, ?_⟩
  refine wpIn_mono HB2.out ?_
  intro e a w2 h
  cases e with
  | normal => exact h
  | panic ch => exact h
  | exit id => exact h
  | goto l => exact h
  | ret => exact h
  | outgrown => exact h

theorem all_start (A : Option Addr) (n c : Nat) (l : Str) (bl bu : Nat) (w : World) (hne : bl ≠ bu)
    (hl : w.heap[bl]? = some (.cells #[.slice none 0 0] 24 (0, 0))) (hu : w.heap[bu]? = some (.cells #[.int .i64 0] 3 (0, 0))) (hn : l.length = n) (W1 : World)
    (hW1 : W1 = (((((w.alloc (.cells #[.func (.func 18) #[] #[.pointer (some ⟨bl, 0, none⟩), .pointer (some ⟨bu, 0, none⟩)]] 50)).alloc (.cells #[.int .i64 0, .slice none 0 0, .int .i64 0, .int .i64 0, .int .i64 0] 33)).alloc (.cells #[.int .i64 0] 3)).alloc (.cells #[.slice A n c] 22)).alloc (.deferred (some []))).alloc (recA A n c bl bu w.heap.size .ready)) :
    JI w bl bu n (runL (l.length + 1) l {}) (recA A n c bl bu w.heap.size .ready) l W1 ∧ W1.heap[w.heap.size + 3]? = some (.cells #[.slice A n c] 22 (0, 0)) ∧ (∀ k, k < w.heap.size → W1.heap[k]? = w.heap[k]?) := by
  have hold : ∀ k, k < w.heap.size → W1.heap[k]? = w.heap[k]? := fun k hk => by
    rw [hW1, Below.heap_alloc _ _ _ (by simp; omega), Below.heap_alloc _ _ _ (by simp; omega), Below.heap_alloc _ _ _ (by simp; omega), Below.heap_alloc _ _ _ (by simp; omega), Below.heap_alloc _ _ _ (by simp; omega), Below.heap_alloc _ _ _ hk]
  have h0 : W1.heap[w.heap.size]? = some (.cells #[.func (.func 18) #[] #[.pointer (some ⟨bl, 0, none⟩), .pointer (some ⟨bu, 0, none⟩)]] 50 (0, 0)) := by
    rw [hW1]; exact bold (bold (bold (bold (bold (bnew _ _) _) _) _) _) _
  have h1 : W1.heap[w.heap.size + 1]? = some (.cells (repC 0 none 0 0 (0, 0, 0)) 33 (0, 0)) := by
    rw [hW1]; refine bold (bold (bold (bold ?_ _) _) _) _; have := bnew (w.alloc (.cells #[.func (.func 18) #[] #[.pointer (some ⟨bl, 0, none⟩), .pointer (some ⟨bu, 0, none⟩)]] 50)) (.cells #[.int .i64 0, .slice none 0 0, .int .i64 0, .int .i64 0, .int .i64 0] 33); simpa [repC] using this
  have h2 : W1.heap[w.heap.size + 2]? = some (.cells #[.int .i64 0] 3 (0, 0)) := by
    rw [hW1]; refine bold (bold (bold ?_ _) _) _; rw [show w.heap.size + 2 = ((w.alloc (.cells #[.func (.func 18) #[] #[.pointer (some ⟨bl, 0, none⟩), .pointer (some ⟨bu, 0, none⟩)]] 50)).alloc (.cells #[.int .i64 0, .slice none 0 0, .int .i64 0, .int .i64 0, .int .i64 0] 33)).heap.size by simp]; exact bnew _ _
  have h3 : W1.heap[w.heap.size + 3]? = some (.cells #[.slice A n c] 22 (0, 0)) := by
    rw [hW1]; refine bold (bold ?_ _) _; rw [show w.heap.size + 3 = (((w.alloc (.cells #[.func (.func 18) #[] #[.pointer (some ⟨bl, 0, none⟩), .pointer (some ⟨bu, 0, none⟩)]] 50)).alloc (.cells #[.int .i64 0, .slice none 0 0, .int .i64 0, .int .i64 0, .int .i64 0] 33)).alloc (.cells #[.int .i64 0] 3)).heap.size by simp]; exact bnew _ _
  have h4 : W1.heap[w.heap.size + 4]? = some (.deferred (some [])) := by
    rw [hW1]; refine bold ?_ _; rw [show w.heap.size + 4 = ((((w.alloc (.cells #[.func (.func 18) #[] #[.pointer (some ⟨bl, 0, none⟩), .pointer (some ⟨bu, 0, none⟩)]] 50)).alloc (.cells #[.int .i64 0, .slice none 0 0, .int .i64 0, .int .i64 0, .int .i64 0] 33)).alloc (.cells #[.int .i64 0] 3)).alloc (.cells #[.slice A n c] 22)).heap.size by simp]; exact bnew _ _
  have h5 : W1.heap[w.heap.size + 5]? = some (recA A n c bl bu w.heap.size .ready) := by
    rw [hW1]; rw [show w.heap.size + 5 = (((((w.alloc (.cells #[.func (.func 18) #[] #[.pointer (some ⟨bl, 0, none⟩), .pointer (some ⟨bu, 0, none⟩)]] 50)).alloc (.cells #[.int .i64 0, .slice none 0 0, .int .i64 0, .int .i64 0, .int .i64 0] 33)).alloc (.cells #[.int .i64 0] 3)).alloc (.cells #[.slice A n c] 22)).alloc (.deferred (some []))).heap.size by simp]; exact bnew _ _
  have hsz : W1.heap.size = w.heap.size + 6 := by rw [hW1]; simp
  have hlb := blt hl
  have hub := blt hu
  refine ⟨⟨⟨l.length + 1, {}, by omega, rfl, ⟨h0, h2, (hold _ hub).trans hu, ⟨w.heap.size + 6, none, 0, .slice none 0 0, h1, World.ownsRow_nil _ _ _ _, Nat.le_refl _, by omega, (hold _ hlb).trans hl, ⟨[], World.ownsRow_nil _ _ _ _, rfl, fun i cs r h => by simp at h⟩, fun k e => by cases e⟩, by rw [hW1]; rfl, by rw [hW1]; rfl, by rw [hW1]; rfl, by omega, fun k hk _ _ => hold k hk, ⟨hlb, hub, hne⟩, MI.noside _ h3 (fun cs fr e => by rw [h4] at e; cases e) (fun cs fr e => by rw [h5] at e; cases e)⟩, by simp; omega, by simp⟩, ⟨_, h3⟩, h4, h5, rfl⟩, h3, hold⟩

set_option maxRecDepth 100000 in
set_option maxHeartbeats 1000000 in
theorem all_any (A : Option Addr) (n c : Nat) (l : Str) (bl bu : Nat) (w : World) (hG : G w) (hbl8 : 8 ≤ bl) (hbu8 : 8 ≤ bu) (hne : bl ≠ bu)
    (hl : w.heap[bl]? = some (.cells #[.slice none 0 0] 24 (0, 0))) (hu : w.heap[bu]? = some (.cells #[.int .i64 0] 3 (0, 0)))
    (hn : l.length = n) (hc : n ≤ c) (hA : A = none → c = 0) (hrd : RdT w.heap.size w 5 A (l.map u8v)) (hlen : n ≤ 2000000) :
    Calls Tryd.prog 17 #[.slice A n c, .func (.func 18) #[] #[.pointer (some ⟨bl, 0, none⟩), .pointer (some ⟨bu, 0, none⟩)]] w fun e w' =>
      (e = .returned (.tuple #[]) ∧ (runL (l.length + 1) l {}).2 = true ∧ MI w bl bu (runL (l.length + 1) l {}).1 w') ∨ (e = .panicked [{ v := wrongV, recovered := false }] ∧ (runL (l.length + 1) l {}).2 = false ∧ MI w bl bu (runL (l.length + 1) l {}).1 w') := by
  refine calls_of_wpK (n := 9) Tryd.func17 rfl ?_
  simp only [Tryd.ntmps17, List.size_toArray, List.length_cons, List.length_nil, Nat.reduceAdd, Nat.reduceSub, Array.replicate_succ, Array.replicate_zero, List.push_toArray, List.append_toArray, List.nil_append, List.cons_append]
  have HST := Lib.hid (all_start A n c l bl bu w hne hl hu hn)
  have HL := Lib.hid hl
  have HU := Lib.hid hu
  clear hl hu
  generalize hR : runL (l.length + 1) l {} = R at *
  refine wpK_seq_k (n := 9) (fun K1 hK1 => ?_)
  gi_wp2
  refine wpK_seq_k (n := 9) (fun K2 hK2 => ?_)
  gi_wp2
  refine wpK_seq_k (n := 9) (fun K3 hK3 => ?_)
  gi_wp2
  refine wpK_seq_k (n := 9) (fun K4 hK4 => ?_)
  gi_wp2_with (refine ⟨trivial, ?_⟩; gi_at_call 24; refine (callsIn_wide.2 (lines_any _ _ _ _)).mono ?_; rintro e w' ⟨rfl, rfl⟩)
  refine wpK_block ?_
  refine wpK_range (n := 9) rfl (enters_of Tryd.func34 (by kernel_rfl) rfl) ?_
  intro W1 hW1
  have hsz : ∀ o1 o2 o3 o4 : Obj, ((((w.alloc o1).alloc o2).alloc o3).alloc o4).heap.size = w.heap.size + 4 := fun o1 o2 o3 o4 => by simp
  simp only [hsz] at hW1 ⊢
  obtain ⟨hJ0, hb0, hold0⟩ := HST.out W1 (by
    rw [hW1]
    dsimp only [recA, preTmps]
    simp only [Array.replicate_succ, Array.replicate_zero, List.push_toArray, List.append_toArray, List.nil_append, List.cons_append]
    rfl)
  clear hW1
  refine CallsIn.mono (lines1_in (m := 8) (L := w.heap.size + 5) (bb := w.heap.size + 3) (n0 := w.heap.size) (J := JI w bl bu n R (recA A n c bl bu w.heap.size .ready))
    (X := fun W' ch => ch = [{ v := wrongV, recovered := false }] ∧ R.2 = false ∧ MI w bl bu R.1 W' ∧ W'.heap[w.heap.size + 4]? = some (.deferred (some []))) (fun rest W v hJ => hJ.set v)
    (fun rest s rest' W hJ hnl => all_yield A n c bl bu w hG hbl8 hbu8 n hlen R rest s rest' W hJ hnl) (by omega) l W1 hJ0 ⟨A, c, by rw [hn]; exact hb0, by omega, hA, hrd.keep (fun b cs fr hb h => (hold0 b hb).trans h)⟩ (by omega)) ?_
  rintro e W' (⟨rfl, r, hst, hJ⟩ | ⟨r, rfl, hbad, hJ⟩ | ⟨ch, rfl, rfl, hR2, hM, hdd⟩)
  · obtain ⟨k, st, hk, hrun, hM, -, -⟩ := hJ.run
    have hend := (runL_end hrun hk).1 hst
    have hz := hM.size
    refine ⟨_, run_endLoop hJ.rr (by intro h; cases h), ?_⟩
    have hM2 := hM.put hJ.bb hJ.dd (.loop { state := .exhausted, pending := none, fn := 17, tmps := preTmps A n c bl bu w.heap.size, params := #[11], assign := allAssign, body := allBody, defers := w.heap.size + 4 }) rfl
    refine ⟨(by intro h; cases h), .inl ⟨w.heap.size + 4, _, rfl, run_takeDeferred ((World.putObj_heap_other (by omega)).trans hJ.dd), .tuple #[], results_none rfl _ _ _, .inl ⟨rfl, by rw [hend], ?_⟩⟩⟩
    rw [hend]
    exact hM2.shut2
  · obtain ⟨k, st, hk, hrun, hM, -, -⟩ := hJ.run
    have hend := (runL_end hrun hk).2 hbad
    refine ⟨(by intro h; cases h), .inl ⟨w.heap.size + 4, _, rfl, run_takeDeferred hJ.dd, .inr ⟨rfl, by rw [hend], by rw [hend]; exact hM.shut2⟩⟩⟩
  · refine ⟨(by intro h; cases h), .inl ⟨w.heap.size + 4, _, rfl, run_takeDeferred hdd, .inr ⟨rfl, hR2, hM.shut2⟩⟩⟩
end Go.Proofs.YtmdcedbnlbcdjaaDoor
