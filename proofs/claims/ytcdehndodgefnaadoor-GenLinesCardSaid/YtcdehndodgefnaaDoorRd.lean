/- What a wide number leaves, by the prime's shape. Plain Lean, over Int. -/
namespace Ab

theorem emod_is {x r : Int} (k : Int) (h : x = r + 18446744069414584321 * k) (h0 : 0 ≤ r) (h1 : r < 18446744069414584321) : x % 18446744069414584321 = r := by
  subst h; omega

theorem red_parts (hi lo : Int) (h0 : 0 ≤ hi) (h1 : hi < 18446744073709551616) (l0 : 0 ≤ lo) (l1 : lo < 18446744073709551616) (t s r : Int)
    (ht : t = if lo < hi / 4294967296 then ((lo - hi / 4294967296) % 18446744073709551616 - 4294967295) % 18446744073709551616 else (lo - hi / 4294967296) % 18446744073709551616)
    (hs : s = if (t + hi % 4294967296 * 4294967295) % 18446744073709551616 < hi % 4294967296 * 4294967295 then ((t + hi % 4294967296 * 4294967295) % 18446744073709551616 + 4294967295) % 18446744073709551616 else (t + hi % 4294967296 * 4294967295) % 18446744073709551616)
    (hr : r = if s ≥ 18446744069414584321 then s - 18446744069414584321 else s) : r = (hi * 18446744073709551616 + lo) % 18446744069414584321 := by
  obtain ⟨top, mid, e, a1, a2, a3, a4, e1, e2⟩ : ∃ top mid : Int, hi = top * 4294967296 + mid ∧ 0 ≤ mid ∧ mid < 4294967296 ∧ 0 ≤ top ∧ top < 4294967296 ∧ hi / 4294967296 = top ∧ hi % 4294967296 = mid :=
    ⟨hi / 4294967296, hi % 4294967296, by omega, by omega, by omega, by omega, by omega, rfl, rfl⟩
  rw [e1] at ht
  rw [e2] at hs
  have t0 : 0 ≤ t ∧ t < 18446744073709551616 ∧ (t = lo - top ∨ t = lo - top + 18446744069414584321) := by split at ht <;> omega
  have s0 : 0 ≤ s ∧ s < 18446744073709551616 ∧ (s = t + mid * 4294967295 ∨ s = t + mid * 4294967295 - 18446744069414584321) := by split at hs <;> omega
  have key : hi * 18446744073709551616 + lo = (lo - top + mid * 4294967295) + 18446744069414584321 * (mid + top * 4294967297) := by omega
  clear ht hs e1 e2
  obtain ⟨k, hk, hk0, hk1⟩ : ∃ k : Int, lo - top + mid * 4294967295 = r + 18446744069414584321 * k ∧ 0 ≤ r ∧ r < 18446744069414584321 := by
    obtain ⟨t1, t2, t3⟩ := t0
    obtain ⟨s1, s2, s3⟩ := s0
    by_cases c : s ≥ 18446744069414584321
    · rw [if_pos c] at hr
      rcases t3 with t3 | t3 <;> rcases s3 with s3 | s3
      · exact ⟨1, by omega, by omega, by omega⟩
      · exact ⟨2, by omega, by omega, by omega⟩
      · exact ⟨0, by omega, by omega, by omega⟩
      · exact ⟨1, by omega, by omega, by omega⟩
    · rw [if_neg c] at hr
      rcases t3 with t3 | t3 <;> rcases s3 with s3 | s3
      · exact ⟨0, by omega, by omega, by omega⟩
      · exact ⟨1, by omega, by omega, by omega⟩
      · exact ⟨-1, by omega, by omega, by omega⟩
      · exact ⟨0, by omega, by omega, by omega⟩
  exact (emod_is (k + (mid + top * 4294967297)) (by omega) hk0 hk1).symm
end Ab
