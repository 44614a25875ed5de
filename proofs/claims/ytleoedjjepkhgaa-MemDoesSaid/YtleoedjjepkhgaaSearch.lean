import Derived.Test.YtleoedjjepkhgaaWord
/- slices.BinarySearch over a rising row of ints. -/
namespace Go.Proofs.Ytleoedjjepkhgaa
open Go.RowKit

theorem less_any (a b : Int) (w : World) :
    Calls Try.prog 74 #[.int .i64 a, .int .i64 b] w fun e w' => e = .returned (.bool (decide (a < b))) ∧ w' = w := by
  go_enter Try.func74, Try.ntmps74
  go_wp2
  go_ret
  exact ⟨rfl, rfl⟩

/-- element k of a row of numbers -/
def nth (xs : List Nat) (k : Nat) : Nat := xs.getD k 0

theorem nth_get {xs : List Nat} {k : Nat} (h : k < xs.length) : xs[k]? = some (nth xs k) := by
  unfold nth; rw [List.getD_eq_getElem?_getD, List.getElem?_eq_getElem h]; rfl

theorem nth_mono {xs : List Nat} (hs : xs.Pairwise (· < ·)) {i j : Nat} (hij : i ≤ j) (hj : j < xs.length) : nth xs i ≤ nth xs j := by
  rcases Nat.eq_or_lt_of_le hij with rfl | h
  · exact Nat.le_refl _
  · have h1 := nth_get (xs := xs) (k := i) (by omega)
    have h2 := nth_get hj
    rw [List.getElem?_eq_getElem (by omega)] at h1 h2
    simp only [Option.some.injEq] at h1 h2
    rw [← h1, ← h2]
    exact Nat.le_of_lt (List.pairwise_iff_getElem.1 hs i j (by omega) hj h)

structure Found (xs : List Nat) (t i : Nat) : Prop where
  le : i ≤ xs.length
  lo : ∀ j, j < i → nth xs j < t
  hi : ∀ j, i ≤ j → j < xs.length → t ≤ nth xs j

def hasAt (xs : List Nat) (t i : Nat) : Bool := decide (i < xs.length) && decide (nth xs i = t)

set_option maxHeartbeats 1000000 in
theorem search_any (b cap : Nat) (xs : List Nat) (t : Nat) (w : World) (hs : xs.Pairwise (· < ·)) (hlen : xs.length ≤ 65536)
    (hc : ∀ j, j < xs.length → w.cell? ⟨b, j, none⟩ = some (.int .i64 ((nth xs j : Nat) : Int))) :
    Calls Try.prog 63 #[.slice (some ⟨b, 0, none⟩) xs.length cap, .int .i64 t] w fun e w' =>
      (∃ i : Nat, e = .returned (.tuple #[.int .i64 i, .bool (hasAt xs t i)]) ∧ Found xs t i) ∧ w' = w := by
  go_enter Try.func63, Try.ntmps63
  go_wp2
  go_loop [7, 8] (fun u v => ∃ i j : Nat, i ≤ j ∧ j ≤ xs.length ∧ (∀ k, k < i → nth xs k < t) ∧ (∀ k, j ≤ k → k < xs.length → t ≤ nth xs k) ∧ u = .int .i64 i ∧ v = .int .i64 j) (fun u v => (intOf v - intOf u).toNat)
  case atStart => exact ⟨0, xs.length, Nat.zero_le _, Nat.le_refl _, by omega, by omega, rfl, rfl⟩
  case round =>
    obtain ⟨i, j, hij, hj, h1, h2, rfl, rfl⟩ := hrel
    by_cases hlt : i < j
    · have hcell : w.cell? ⟨b, (i + j) / 2, none⟩ = some (.int .i64 ((nth xs ((i + j) / 2) : Nat) : Int)) := hc _ (by omega)
      clear hc
      have H1 := Lib.hid h1
      have H2 := Lib.hid h2
      clear h1 h2
      go_wp2_with (go_at_call 74; refine (less_any _ _ _).mono ?_; rintro e w' ⟨rfl, rfl⟩)
      · go_round
        case rel =>
          have hless : nth xs ((i + j) / 2) < t := by assumption
          exact ⟨(i + j) / 2 + 1, j, by omega, hj, fun k hk => Nat.lt_of_le_of_lt (nth_mono hs (by omega) (by omega)) hless, H2.out, by go_num, rfl⟩
        case measure => simp [intOf]; omega
      · go_round
        case rel =>
          have hless : ¬ nth xs ((i + j) / 2) < t := by assumption
          exact ⟨i, (i + j) / 2, by omega, by omega, H1.out, fun k hk hk' => by have := nth_mono hs hk hk'; omega, rfl, by go_num⟩
        case measure => simp [intOf]; omega
    · have e : j = i := by omega
      subst e
      have hF : Found xs t j := ⟨hj, h1, h2⟩
      have HF := Lib.hid hF
      clear h1 h2 hF
      by_cases hin : j < xs.length
      · have hcell : w.cell? ⟨b, j, none⟩ = some (.int .i64 ((nth xs j : Nat) : Int)) := hc _ hin
        clear hc
        by_cases heq : nth xs j = t
        · have HE := Lib.hid heq
          have hb : (((nth xs j : Nat) : Int) == (t : Int)) = true := beq_iff_eq.2 (by omega)
          clear heq
          go_wp2
          go_ret2
          exact ⟨⟨j, by simp [hasAt, hin, HE.out], HF.out⟩, rfl⟩
        · have HE := Lib.hid heq
          have hb : (((nth xs j : Nat) : Int) == (t : Int)) = false := beq_eq_false_iff_ne.2 (by omega)
          clear heq
          go_wp2
          go_ret2
          exact ⟨⟨j, by simp [hasAt, HE.out], HF.out⟩, rfl⟩
      · clear hc
        go_wp2
        go_ret2
        exact ⟨⟨j, by simp [hasAt, hin], HF.out⟩, rfl⟩

theorem Found.unique {xs : List Nat} {t i j : Nat} (h : Found xs t i) (k : Found xs t j) : i = j := by
  rcases Nat.lt_trichotomy i j with c | c | c
  · have := k.lo i c; have := h.hi i (Nat.le_refl _) (by have := k.le; omega); omega
  · exact c
  · have := h.lo j c; have := k.hi j (Nat.le_refl _) (by have := h.le; omega); omega

theorem found_ex {xs : List Nat} (hs : xs.Pairwise (· < ·)) (t : Nat) : ∃ i, Found xs t i := by
  have key : ∀ k, k ≤ xs.length → ∃ i, i ≤ k ∧ (∀ j, j < i → nth xs j < t) ∧ (i = k ∨ t ≤ nth xs i) := by
    intro k
    induction k with
    | zero => intro _; exact ⟨0, Nat.le_refl _, by omega, .inl rfl⟩
    | succ k ih =>
      intro hk
      obtain ⟨i, h1, h2, h3⟩ := ih (by omega)
      rcases h3 with rfl | h3
      · by_cases c : nth xs i < t
        · exact ⟨i + 1, Nat.le_refl _, fun j hj => by rcases Nat.lt_succ_iff_lt_or_eq.1 hj with h | h; exact h2 j h; exact h ▸ c, .inl rfl⟩
        · exact ⟨i, by omega, h2, .inr (by omega)⟩
      · exact ⟨i, by omega, h2, .inr h3⟩
  obtain ⟨i, h1, h2, h3⟩ := key xs.length (Nat.le_refl _)
  refine ⟨i, h1, h2, fun j hij hj => ?_⟩
  rcases h3 with rfl | h3
  · omega
  · exact Nat.le_trans h3 (nth_mono hs hij hj)

theorem search_at (b cap : Nat) (xs : List Nat) (t i : Nat) (w : World) (hs : xs.Pairwise (· < ·)) (hlen : xs.length ≤ 65536) (hF : Found xs t i)
    (hc : ∀ j, j < xs.length → w.cell? ⟨b, j, none⟩ = some (.int .i64 ((nth xs j : Nat) : Int))) :
    Calls Try.prog 63 #[.slice (some ⟨b, 0, none⟩) xs.length cap, .int .i64 t] w fun e w' =>
      e = .returned (.tuple #[.int .i64 i, .bool (hasAt xs t i)]) ∧ w' = w :=
  (search_any b cap xs t w hs hlen hc).mono fun e w' ⟨⟨j, he, hj⟩, hw⟩ => ⟨by rw [he, hj.unique hF], hw⟩

/-- of no numbers none is found -/
theorem search_nil (t : Nat) (w : World) :
    Calls Try.prog 63 #[.slice none 0 0, .int .i64 t] w fun e w' => e = .returned (.tuple #[.int .i64 0, .bool false]) ∧ w' = w := by
  go_enter Try.func63, Try.ntmps63
  go_wp2
  go_loop [7, 8] (fun u v => u = .int .i64 0 ∧ v = .int .i64 0) (fun _ _ => 0)
  case atStart => exact ⟨rfl, rfl⟩
  case round =>
    obtain ⟨rfl, rfl⟩ := hrel
    go_wp2
    go_ret2
    exact ⟨rfl, rfl⟩

end Go.Proofs.Ytleoedjjepkhgaa
