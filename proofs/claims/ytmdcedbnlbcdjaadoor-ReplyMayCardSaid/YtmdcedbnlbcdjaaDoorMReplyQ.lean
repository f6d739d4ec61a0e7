/- What is read may be, and is written so, all together, as the bytes were: plain. -/
import Derived.Test.YtmdcedbnlbcdjaaDoorMReplyD
import Derived.Test.YtmdcedbnlbcdjaaDoorMReplyP2
import Derived.Lib.IndexLaws
import Derived.Lib.IndexAny
namespace Go.Proofs.YtmdcedbnlbcdjaaDoor
open Go Go.RowKit Go.My

theorem nextLine_line {b s r : Str} (h : nextLine b = .line s r) : b = s ++ ([13, 10] ++ r) ∧ (∀ c ∈ s, c ≠ 13 ∧ c ≠ 10) ∧ s.length ≤ 510 := by
  unfold nextLine at h
  split at h
  · split at h <;> cases h
  · rename_i h0
    split at h
    · rename_i hc
      injection h with h1 h2
      obtain ⟨q, hq⟩ : ∃ q : Nat, Lib.indexByte b 10 = (q : Int) := ⟨_, (Int.toNat_of_nonneg (Int.not_lt.1 h0)).symm⟩
      obtain ⟨hc1, hc2, hc3⟩ := hc
      rw [hq] at h1 h2 hc1 hc2 hc3
      obtain ⟨p, rfl⟩ : ∃ p, q = p + 1 := ⟨q - 1, by omega⟩
      have h13 : Lib.indexByte b 13 = ((p : Nat) : Int) := by rw [hc3]; omega
      obtain ⟨a10, n10⟩ := Lib.indexByte_some hq
      obtain ⟨a13, n13⟩ := Lib.indexByte_some h13
      have e1 : (((p + 1 : Nat) : Int) - 1).toNat = p := by omega
      have e2 : (((p + 1 : Nat) : Int) + 1).toNat = p + 2 := by omega
      rw [e1] at h1
      rw [e2] at h2
      subst h1; subst h2
      have hlt := (List.getElem?_eq_some_iff.1 a10).1
      refine ⟨?_, ?_, by rw [List.length_take]; omega⟩
      · conv => lhs; rw [← List.take_append_drop p b]
        congr 1
        rw [List.drop_eq_getElem_cons (by omega), List.drop_eq_getElem_cons (by omega)]
        have g13 := (List.getElem?_eq_some_iff.1 a13).2
        have g10 := (List.getElem?_eq_some_iff.1 a10).2
        rw [g13, g10]
        rfl
      · intro c hcm
        obtain ⟨j, hj, hcj⟩ := List.mem_iff_getElem.1 hcm
        rw [List.length_take] at hj
        rw [List.getElem_take] at hcj
        refine ⟨fun e => n13 j (by omega) ?_, fun e => n10 j (by omega) ?_⟩
        · rw [List.getElem?_eq_getElem (by omega), hcj, e]
        · rw [List.getElem?_eq_getElem (by omega), hcj, e]
    · cases h

theorem fine_of {s : Str} (hs : s.length ≤ 506) (h : ∀ c ∈ s, c ≠ 13 ∧ c ≠ 10) : fine ⟨s.toArray⟩ = true := by
  unfold fine Lib.containsAny
  have h1 : Lib.indexAny s [13, 10] = -1 := Lib.indexAny_none (fun j b hj hb => by
    obtain ⟨hlt, he⟩ := List.getElem?_eq_some_iff.1 hb
    have := h b (by rw [← he]; exact List.getElem_mem _)
    simp [this.1, this.2])
  simp only [h1, Bool.and_eq_true, decide_eq_true_eq, Bool.not_eq_true']
  exact ⟨by simpa [ByteArray.size] using hs, by decide⟩

theorem numOk_itoa {l : Str} (h : numOk l = true) : Lib.itoa (numVal l) = l := by
  unfold numOk at h
  unfold numVal
  cases hv : Lib.atoiAll l with
  | ok v => rw [hv] at h; simp at h; exact h.2.1
  | _ => rw [hv] at h; simp at h

theorem lineOk_bytes {st : St} {s : Str} (h : lineOk st s = true) : 4 ≤ s.length ∧ ((s[3]? = some 45 ∨ s[3]? = some 32) ∧ (st.xl.length < 100) ∧ 200 ≤ numVal (s.take 3) ∧ numVal (s.take 3) ≤ 599 ∧ (st.xl.length = 0 ∨ numVal (s.take 3) = st.code)) ∧
    ∀ last : Bool, s[3]? = some (if last then 32 else 45) → lineB (numVal (s.take 3)) last ⟨(s.drop 4).toArray⟩ = s ++ [13, 10] := by
  unfold lineOk at h
  simp only [Bool.and_eq_true, Bool.or_eq_true, decide_eq_true_eq, beq_iff_eq] at h
  obtain ⟨⟨⟨h4, h3⟩, hx⟩, ⟨⟨hn, h200⟩, h599⟩, hc⟩ := h
  refine ⟨h4, ⟨h3, hx, h200, h599, hc⟩, fun last hl => ?_⟩
  unfold lineB
  rw [numOk_itoa hn]
  conv => rhs; lhs; rw [← List.take_append_drop 3 s]
  rw [List.drop_eq_getElem_cons (l := s) (i := 3) (by omega), (List.getElem?_eq_some_iff.1 hl).2]
  simp

/-- What the bytes gone through say. -/
structure Says (p : Str) (st : St) : Prop where
  at_ : st.at_ = p.length
  le : st.used ≤ p.length
  told : (st.told.map writeF).flatten = p.take st.used
  may : ∀ r ∈ st.told, MayF r
  begun : p.drop st.used = (st.xl.map (lineB st.code false)).flatten
  code : st.xl.length = 0 ∨ (200 ≤ st.code ∧ st.code ≤ 599)
  many : st.xl.length ≤ 100
  fine : ∀ s ∈ st.xl, fine s = true

theorem linesB_pre (k : Int) (ls : List ByteArray) : ∀ i, i < ls.length → linesB k ls i = ((ls.take i).map (lineB k false)).flatten := by
  intro i
  induction i with
  | zero => intro _; simp [linesB]
  | succ i ih =>
    intro hi
    have e : (i + 1 == ls.length) = false := by simp; omega
    rw [linesB, ih (by omega), e, List.take_succ_eq_append_getElem (by omega), List.map_append, List.flatten_append]
    simp [List.getD_eq_getElem?_getD, show i < ls.length by omega]
theorem writeF_last (k : Int) (xl : List ByteArray) (t : ByteArray) (m : Int × Int × Int) : writeF ⟨k, xl ++ [t], m⟩ = (xl.map (lineB k false)).flatten ++ lineB k true t := by
  unfold writeF
  simp only [List.length_append, List.length_singleton]
  rw [linesB, linesB_pre _ _ _ (by simp)]
  simp [List.getD_eq_getElem?_getD]

theorem Says.line {p s r : Str} {st : St} (h : Says p st) (hl : lineOk st s = true) (hs : ∀ c ∈ s, c ≠ 13 ∧ c ≠ 10) (h510 : s.length ≤ 510) : Says (p ++ (s ++ [13, 10])) (lineF st s) := by
  obtain ⟨h4, ⟨h3, hx, h200, h599, hc⟩, hB⟩ := lineOk_bytes hl
  have hf : Go.Proofs.YtmdcedbnlbcdjaaDoor.fine ⟨(s.drop 4).toArray⟩ = true := fine_of (by rw [List.length_drop]; omega) fun c hc => hs c (List.mem_of_mem_drop hc)
  have hcode : st.xl.map (lineB (numVal (s.take 3)) false) = st.xl.map (lineB st.code false) := by
    rcases hc with hc | hc
    · rw [List.length_eq_zero_iff.1 hc]; rfl
    · rw [hc]
  have hfs : ∀ t ∈ st.xl ++ [⟨(s.drop 4).toArray⟩], Go.Proofs.YtmdcedbnlbcdjaaDoor.fine t = true := by
    intro t ht
    rcases List.mem_append.1 ht with ht | ht
    · exact h.fine t ht
    · rw [List.mem_singleton.1 ht]; exact hf
  have hat := h.at_
  have hle := h.le
  unfold lineF
  simp only []
  by_cases h32 : s[3]? = some 32
  · rw [if_pos h32]
    refine ⟨?_, ?_, ?_, ?_, ?_, .inl rfl, by simp, by simp⟩
    · simp only [List.length_append, List.length_cons, List.length_nil]; omega
    · simp only [List.length_append, List.length_cons, List.length_nil]; omega
    · simp only [List.map_append, List.flatten_append, List.map_cons, List.map_nil, List.flatten_cons, List.flatten_nil, List.append_nil]
      rw [h.told, writeF_last, hcode, ← h.begun, hB true h32, ← List.append_assoc, List.take_append_drop, List.take_of_length_le (by simp only [List.length_append, List.length_cons, List.length_nil]; omega)]
    · intro r hr
      rcases List.mem_append.1 hr with hr | hr
      · exact h.may r hr
      · rw [List.mem_singleton.1 hr]
        refine ⟨h200, h599, by simp, by simp; omega, hfs, ?_⟩
        intro t ht
        simp only [List.getLast?_append, List.getLast?_singleton, Option.some_or, Option.some.injEq] at ht
        rw [← ht]
    · simp only [List.map_nil, List.flatten_nil]
      exact List.drop_of_length_le (by simp; omega)
  · rw [if_neg h32]
    have h45 : s[3]? = some 45 := h3.resolve_right h32
    refine ⟨?_, ?_, ?_, h.may, ?_, .inr ⟨h200, h599⟩, by simp; omega, hfs⟩
    · simp only [List.length_append, List.length_cons, List.length_nil]; omega
    · simp only [List.length_append, List.length_cons, List.length_nil]; omega
    · simp only []
      rw [List.take_append_of_le_length hle]; exact h.told
    · simp only [List.map_append, List.flatten_append, List.map_cons, List.map_nil, List.flatten_cons, List.flatten_nil, List.append_nil]
      rw [List.drop_append_of_le_length hle, h.begun, hcode, hB false h45]

/-- What was read says what the bytes were. -/
theorem runL_says : ∀ (k : Nat) (p b : Str) (st : St), Says p st → Says ((p ++ b).take (runL k b st).1.at_) (runL k b st).1 ∧ (runL k b st).1.at_ ≤ p.length + b.length := by
  intro k
  induction k with
  | zero => intro p b st h; exact ⟨by simp only [runL]; rw [h.at_, List.take_left]; exact h, by simp only [runL]; rw [h.at_]; omega⟩
  | succ k ih =>
    intro p b st h
    have hst : Says ((p ++ b).take st.at_) st ∧ st.at_ ≤ p.length + b.length := ⟨by rw [h.at_, List.take_left]; exact h, by rw [h.at_]; omega⟩
    unfold runL
    cases hn : nextLine b with
    | stop => exact hst
    | bad => exact hst
    | line s r =>
      simp only []
      obtain ⟨hb, hs, h510⟩ := nextLine_line hn
      by_cases hl : lineOk st s = true
      · rw [if_pos hl]
        have := ih (p ++ (s ++ [13, 10])) r (lineF st s) (h.line (r := r) hl hs h510)
        rw [hb]
        simp only [List.append_assoc, List.length_append, List.length_cons, List.length_nil] at this ⊢
        refine ⟨this.1, by omega⟩
      · rw [if_neg hl]; exact hst
theorem says_start : Says [] {} := ⟨rfl, Nat.le_refl _, rfl, by simp, rfl, .inl rfl, by simp, by simp⟩

/-- All bytes gone through, and none left: they are what is written. -/
theorem read_back (l : Str) (hu : (runL (l.length + 1) l {}).1.used = l.length) : (∀ r ∈ (runL (l.length + 1) l {}).1.told, MayF r) ∧ ((runL (l.length + 1) l {}).1.told.map writeF).flatten = l := by
  obtain ⟨h, hle⟩ := runL_says (l.length + 1) [] l {} says_start
  refine ⟨h.may, ?_⟩
  rw [h.told, hu]
  have := h.le
  rw [hu] at this
  simp only [List.nil_append, List.length_take] at this ⊢
  rw [List.take_of_length_le (by rw [List.length_take]; omega), List.take_of_length_le (by omega)]
theorem used_le (l : Str) : (runL (l.length + 1) l {}).1.used ≤ l.length := by
  obtain ⟨h, hle⟩ := runL_says (l.length + 1) [] l {} says_start
  have := h.le
  simp only [List.nil_append, List.length_take] at this
  omega
end Go.Proofs.YtmdcedbnlbcdjaaDoor
