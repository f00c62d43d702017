/- index: what Put and Del leave is a table as it may be; which keys it has. -/
import Derived.Test.YtobekkgaildbgaaIdxKeys
namespace Go.Proofs.Ytobekkgaildbgaa
open Go.RowKit

section
variable {N : Nat} {T : Tb} {c : Int}
theorem IOk.new {k : Nat} (h0 : 1 ≤ k) (h1 : k ≤ 8) : IOk (2 ^ k) (List.replicate (2 ^ k) (0, 0)) 0 := by
  have h3 : 2 ^ 1 ≤ 2 ^ k := Nat.pow_le_pow_right (by omega) h0
  exact ⟨⟨k, h1, rfl⟩, TOk.new (by omega), by rw [cnt_zero]; rfl, by rw [cnt_zero]; omega⟩
theorem IOk.wf (h : IOk N T c) : ∀ y, y < N → 0 ≤ (gt T y).1 ∧ (gt T y).1 ≤ 1048577 := fun y hy => ⟨(h.ok.wf y hy).1, (h.ok.wf y hy).2.1⟩
theorem IOk.le (h : IOk N T c) : N ≤ 256 := (pow_le h.pw).2
theorem IOk.put (h : IOk N T c) (key n : Int) : IOk N (putL N T c key n).1 (putL N T c key n).2.1 := by
  unfold putL
  by_cases hr : rightK key = false
  · rw [if_pos hr]; exact h
  · rw [if_neg hr]
    have hr' : rightK key = true := by simpa using hr
    obtain ⟨k0, k1⟩ := rightK_of hr'
    have hf := h.found (key + 1)
    have hput := h.ok.put (n := n) (k1 := key + 1) ⟨by omega, by omega⟩ hf
    have hc := cnt_set T (findL N T (key + 1)) (key + 1, n) (by rw [h.ok.len]; exact hf.lt)
    have b1 : bit (key + 1, n) = 1 := bit_pos (by simp; omega)
    have w := h.ok.wf _ hf.lt
    rw [b1] at hc
    by_cases z : (gt T (findL N T (key + 1))).1 = 0
    · rw [if_pos z]
      by_cases zc : c = N - 1
      · rw [if_pos zc]; exact h
      · rw [if_neg zc]
        rw [w.2.2 z, bit_zero] at hc
        have e1 := h.cn
        have e2 := h.lt
        exact ⟨h.pw, hput, by simp only; omega, by simp only; omega⟩
    · rw [if_neg z]
      rw [bit_pos (by omega)] at hc
      have e1 := h.cn
      have e2 := h.lt
      exact ⟨h.pw, hput, by simp only; omega, by simp only; omega⟩
theorem getL_true {key : Int} (h : (getL N T key).2 = true) : rightK key = true ∧ 0 < (gt T (findL N T (key + 1))).1 := by
  unfold getL at h
  by_cases hr : rightK key = false
  · rw [if_pos hr] at h; cases h
  · rw [if_neg hr] at h; exact ⟨by simpa using hr, by simpa using h⟩
theorem IOk.hole (h : IOk N T c) {key : Int} (hn : (getL N T key).2 = true) : ∃ e, Hole N T (findL N T (key + 1)) e := by
  obtain ⟨_, hp⟩ := getL_true hn
  obtain ⟨e, e1, e2⟩ := h.ok.room h.lt
  exact h.ok.hole (h.found _).lt ⟨e, e1, by rintro rfl; rw [e2] at hp; simp at hp, e2⟩
theorem IOk.del (h : IOk N T c) {key : Int} {e : Nat} (hn : (getL N T key).2 = true) (he : Hole N T (findL N T (key + 1)) e) : IOk N (delU N T (findL N T (key + 1)) e) (c - 1) := by
  obtain ⟨_, hp⟩ := getL_true hn
  have hd := del_post he hp
  have e1 := h.cn
  have e2 := h.lt
  have e3 := hd.cnt
  exact ⟨h.pw, hd.ok, by omega, by omega⟩
/-- Which keys there are. -/
theorem IOk.get (h : IOk N T c) (key n : Int) : getL N T key = (n, true) ↔ rightK key = true ∧ Has N T (key + 1) n := by
  have hf := h.found (key + 1)
  constructor
  · intro q
    obtain ⟨a, b⟩ := getL_true (by rw [q] : (getL N T key).2 = true)
    refine ⟨a, findL N T (key + 1), hf.lt, ?_⟩
    unfold getL at q
    rw [if_neg (by rw [a]; simp)] at q
    rcases hf.at_ with z | z
    · rw [z] at b; simp at b
    · exact Prod.ext z (congrArg Prod.fst q)
  · rintro ⟨a, y, hy, ey⟩
    obtain ⟨k0, k1⟩ := rightK_of a
    have h2 := h.ok.find_there hy (by rw [ey]; simp; omega)
    rw [ey] at h2
    have e := FoundAt.uniq (by have := h.ok.pos; omega) h2 hf
    unfold getL
    rw [if_neg (by rw [a]; simp), ← e, ey]
    have : (0 < key + 1) := by omega
    simp [this]
end

set_option maxRecDepth 100000 in
set_option maxHeartbeats 2000000 in
theorem idx_new_6 (w : World) : Calls Try.prog 14 #[.int .i64 6] w fun e w' => e = .returned (.tuple #[.pointer none, .int .i64 1]) ∧ w = w' := by
  have hm9 : bits .and .i64 6 5 = 4 := by decide +kernel
  go_enter Try.func14, Try.ntmps14
  go_wp2
  go_ret2
  exact ⟨rfl, rfl⟩
end Go.Proofs.Ytobekkgaildbgaa
