/- The reader of package wire: get, values, open, close. -/
import Derived.Test.YtoebfpimojkamaaDoorWirePuts
import Derived.Test.YtoebfpimojkamaaDoorWireAs3
import Derived.Test.YtoebfpimojkamaaDoorSlice
import Derived.Laws.BitsAllLaws
namespace Go.Proofs.YtoebfpimojkamaaDoor
open Go.RowKit

/-- What bytes, the least first, say. -/
def num : List Int → Int
  | [] => 0
  | b :: r => b + 256 * num r

/-- How many numbers so many bytes make. -/
def p256 : Nat → Int
  | 0 => 1
  | k + 1 => 256 * p256 k
theorem p256_pos : ∀ k, 1 ≤ p256 k
  | 0 => by simp [p256]
  | k + 1 => by have := p256_pos k; simp only [p256]; omega
theorem p256_le : ∀ (k n : Nat), k ≤ n → p256 k ≤ p256 n
  | 0, n, _ => p256_pos n
  | k + 1, 0, h => by omega
  | k + 1, n + 1, h => by have := p256_le k n (by omega); simp only [p256]; omega
theorem num_bounds : ∀ l : List Int, (∀ b ∈ l, 0 ≤ b ∧ b ≤ 255) → 0 ≤ num l ∧ num l < p256 l.length
  | [], _ => by simp [num, p256]
  | b :: r, h => by
    have h1 := h b (by simp)
    have h2 := num_bounds r (fun x hx => h x (by simp [hx]))
    simp only [num, List.length_cons, p256]
    omega

theorem or_byte (m v : Int) (m0 : 0 ≤ m) (m1 : m < 72057594037927936) (v0 : 0 ≤ v) (v1 : v ≤ 255) : bits .or .u64 (m * 256) v = v + 256 * m := by
  rw [u64_or _ _ (by omega) (by omega) (by omega) (by omega)]
  have h := Nat.two_pow_add_eq_or_of_lt (b := v.toNat) (i := 8) (by omega) m.toNat
  rw [show (m * 256).toNat = 2 ^ 8 * m.toNat by omega, ← h]
  omega
theorem NAt.drop {w : World} {k : IntKind} {m : Int} {top : Nat} {A : Option Addr} {vs : List Int} (h : NAt w k m top A vs) (n : Nat) : NAt w k m top (A.map fun x => x.add n) (vs.drop n) := by
  rcases h with rfl | ⟨b, off, rfl, h2, h3⟩
  · exact Or.inl (by simp)
  · refine Or.inr ⟨b, off + n, by simp [Addr.add], h2, fun i v hv => ?_⟩
    have := h3 (n + i) v (by simpa using hv)
    rwa [← Nat.add_assoc] at this
theorem NAt.take {w : World} {k : IntKind} {m : Int} {top : Nat} {A : Option Addr} {vs : List Int} (h : NAt w k m top A vs) (n : Nat) : NAt w k m top A (vs.take n) := by
  rcases h with rfl | ⟨b, off, rfl, h2, h3⟩
  · exact Or.inl (by simp)
  · refine Or.inr ⟨b, off, rfl, h2, fun i v hv => h3 i v ?_⟩
    rw [List.getElem?_take] at hv
    split at hv
    · exact hv
    · cases hv

/-- A reader's block. -/
structure RdAt (w : World) (p : Nat) (xs : List Int) (e : Value) : Prop where
  rd : ∃ A cap, w.heap[p]? = some (.cells #[.slice A xs.length cap, e] 64) ∧ NAt w .u8 255 p A xs ∧ xs.length ≤ cap
  len : xs.length ≤ 1000

/-- What 'get' comes to. -/
structure GetPost (p : Nat) (xs : List Int) (s : Nat) (e0 : Value) (w : World) (e : Ending) (w' : World) : Prop where
  val : (xs.length < s ∧ e = .returned (.int .u64 0) ∧ RdAt w' p xs (.iface 74 (.agg #[.int .i64 (s - xs.length)]))) ∨ (s ≤ xs.length ∧ e = .returned (.int .u64 (num (xs.take s))) ∧ RdAt w' p (xs.drop s) e0)
  fr : Fr [p] w w'

set_option maxRecDepth 100000 in
set_option maxHeartbeats 2000000 in
theorem wget (p : Nat) (xs : List Int) (e0 : Value) (size : Nat) (hs : size ≤ 8) (w : World) (hr : RdAt w p xs e0) :
    Calls Tryd.prog 31 #[.pointer (some ⟨p, 0, none⟩), .int .i64 size] w fun e w' => GetPost p xs size e0 w e w' := by
  obtain ⟨⟨A, cap, hp, hN, hc⟩, hl⟩ := hr
  have hl' : (xs.length : Int) ≤ 1000 := by omega
  have pl := lt_of_heap hp
  apply blk_use hp; intro hg1 hc1 hz1 _ _ _ _ _
  by_cases hlt : xs.length < size
  · go_enter Tryd.func31, Tryd.ntmps31
    go_wp2_with fail
    go_ret
    exact ⟨Or.inl ⟨hlt, rfl, ⟨⟨A, cap, by (apply heap_eq_of; (focus (repeat (first | (with_reducible assumption) | ((with_reducible refine heap_alloc_at ?_ _); first | (with_reducible rfl) | (focus (simp; done))) | (with_reducible apply heap_alloc_old) | ((with_reducible apply heap_set_other); (case hne => (first | (with_reducible assumption) | exact Nat.ne_of_lt (by with_reducible assumption) | exact Nat.ne_of_gt (by with_reducible assumption) | (focus (simp +arith; done)) | (simp; done)))) | (with_reducible apply heap_set_eq) | (with_reducible apply heap_drew_of) | (with_reducible apply heap_drewN_of)))); (focus (first | (simp; done) | rfl))), NAt.fr (S := [p]) hN (by repeat' (first | (with_reducible exact Fr.refl _ _) | (with_reducible assumption) | (with_reducible refine Fr.drew ?_) | (with_reducible refine Fr.drewN ?_ _) | (with_reducible refine Fr.alloc ?_ _) | ((with_reducible refine Fr.setNew ?_ _ ?_ _); rotate_left; (focus (first | (with_reducible assumption) | exact Nat.le_of_lt (by with_reducible assumption) | (focus (simp +arith; done)) | exact Nat.le_trans (by with_reducible assumption) (by simp +arith; done) | (simp; done)))) | ((with_reducible refine Fr.setOld ?_ _ ?_ _); rotate_left; (focus (simp; done))))) (by omega) (by simp), hc⟩, hl⟩⟩, (by repeat' (first | (with_reducible exact Fr.refl _ _) | (with_reducible assumption) | (with_reducible refine Fr.drew ?_) | (with_reducible refine Fr.drewN ?_ _) | (with_reducible refine Fr.alloc ?_ _) | ((with_reducible refine Fr.setNew ?_ _ ?_ _); rotate_left; (focus (first | (with_reducible assumption) | exact Nat.le_of_lt (by with_reducible assumption) | (focus (simp +arith; done)) | exact Nat.le_trans (by with_reducible assumption) (by simp +arith; done) | (simp; done)))) | ((with_reducible refine Fr.setOld ?_ _ ?_ _); rotate_left; (focus (simp; done)))))⟩
  · have hB : Hid (∀ v ∈ xs, 0 ≤ v ∧ v ≤ 255) := hN.mem
    have HN := Lib.hid hN
    clear hN
    go_enter Tryd.func31, Tryd.ntmps31
    go_wp2_with fail
    go_loopw [5, 6] (fun n i w' => ∃ c : Nat, i = .int .i64 ((c : Int) - 1) ∧ c ≤ size ∧ n = .int .u64 (num ((xs.take size).drop c)) ∧ Fr [] w w') (fun _ i _ => (intOf i + 1).toNat)
    case atStart => exact ⟨size, rfl, by omega, by rw [List.drop_of_length_le (by simp; omega)]; rfl, Fr.refl _ _⟩
    case round =>
      obtain ⟨c, rfl, c1, rfl, F1⟩ := hrel
      have hp := F1.heap hp (by simp)
      apply blk_use hp; intro hg2 hc2 hz2 _ _ _ _ _
      rcases c with _ | c
      · have F1p : Fr [p] w wr := F1.mono (by simp)
        have HN1 := Lib.hid (NAt.fr (S := []) HN.out F1 (by omega) (by simp))
        have hk : Hid (xs.length - size = (xs.drop size).length) := by simp [Hid]
        go_wp2_with fail
        · go_ret
          refine ⟨Or.inr ⟨by omega, rfl, ⟨⟨_, _, by rw [← hk.out]; (apply heap_eq_of; (focus (repeat (first | (with_reducible assumption) | ((with_reducible refine heap_alloc_at ?_ _); first | (with_reducible rfl) | (focus (simp; done))) | (with_reducible apply heap_alloc_old) | ((with_reducible apply heap_set_other); (case hne => (first | (with_reducible assumption) | exact Nat.ne_of_lt (by with_reducible assumption) | exact Nat.ne_of_gt (by with_reducible assumption) | (focus (simp +arith; done)) | (simp; done)))) | (with_reducible apply heap_set_eq) | (with_reducible apply heap_drew_of) | (with_reducible apply heap_drewN_of)))); (focus (first | (simp; done) | rfl))), ?_, ?_⟩, by simp; omega⟩⟩, (by repeat' (first | (with_reducible exact Fr.refl _ _) | (with_reducible assumption) | (with_reducible refine Fr.drew ?_) | (with_reducible refine Fr.drewN ?_ _) | (with_reducible refine Fr.alloc ?_ _) | ((with_reducible refine Fr.setNew ?_ _ ?_ _); rotate_left; (focus (first | (with_reducible assumption) | exact Nat.le_of_lt (by with_reducible assumption) | (focus (simp +arith; done)) | exact Nat.le_trans (by with_reducible assumption) (by simp +arith; done) | (simp; done)))) | ((with_reducible refine Fr.setOld ?_ _ ?_ _); rotate_left; (focus (simp; done)))))⟩
          · rw [List.drop_of_length_le (by omega)]
            exact NAt.nil _ _ _ _ _
          · simp; omega
        · go_ret
          refine ⟨Or.inr ⟨by omega, rfl, ⟨⟨_, _, by rw [← hk.out]; (apply heap_eq_of; (focus (repeat (first | (with_reducible assumption) | ((with_reducible refine heap_alloc_at ?_ _); first | (with_reducible rfl) | (focus (simp; done))) | (with_reducible apply heap_alloc_old) | ((with_reducible apply heap_set_other); (case hne => (first | (with_reducible assumption) | exact Nat.ne_of_lt (by with_reducible assumption) | exact Nat.ne_of_gt (by with_reducible assumption) | (focus (simp +arith; done)) | (simp; done)))) | (with_reducible apply heap_set_eq) | (with_reducible apply heap_drew_of) | (with_reducible apply heap_drewN_of)))); (focus (first | (simp; done) | rfl))), NAt.fr (S := [p]) (HN1.out.drop size) (by repeat' (first | (with_reducible exact Fr.refl _ _) | (with_reducible assumption) | (with_reducible refine Fr.drew ?_) | (with_reducible refine Fr.drewN ?_ _) | (with_reducible refine Fr.alloc ?_ _) | ((with_reducible refine Fr.setNew ?_ _ ?_ _); rotate_left; (focus (first | (with_reducible assumption) | exact Nat.le_of_lt (by with_reducible assumption) | (focus (simp +arith; done)) | exact Nat.le_trans (by with_reducible assumption) (by simp +arith; done) | (simp; done)))) | ((with_reducible refine Fr.setOld ?_ _ ?_ _); rotate_left; (focus (simp; done))))) (by omega) (by simp), by simp; omega⟩, by simp; omega⟩⟩, (by repeat' (first | (with_reducible exact Fr.refl _ _) | (with_reducible assumption) | (with_reducible refine Fr.drew ?_) | (with_reducible refine Fr.drewN ?_ _) | (with_reducible refine Fr.alloc ?_ _) | ((with_reducible refine Fr.setNew ?_ _ ?_ _); rotate_left; (focus (first | (with_reducible assumption) | exact Nat.le_of_lt (by with_reducible assumption) | (focus (simp +arith; done)) | exact Nat.le_trans (by with_reducible assumption) (by simp +arith; done) | (simp; done)))) | ((with_reducible refine Fr.setOld ?_ _ ?_ _); rotate_left; (focus (simp; done)))))⟩
      · rcases HN.out with hz | ⟨b, off, rfl, hb, hcl⟩
        · simp [hz] at hlt; omega
        have hcx : c < xs.length := by omega
        obtain ⟨qc, v0, v1⟩ := hcl c xs[c] (by simp [hcx])
        have qc := (F1.cell (off := off + c) (Nat.lt_trans hb pl)).trans qc
        have hN2 : Hid (num ((xs.take size).drop c) = xs[c] + 256 * num ((xs.take size).drop (c + 1))) := by
          unfold Hid
          rw [List.drop_eq_getElem_cons (by simp; omega)]
          simp [num]
        obtain ⟨m0, m1⟩ := num_bounds ((xs.take size).drop (c + 1)) (fun v hv => hB.out v (List.mem_of_mem_take (List.mem_of_mem_drop hv)))
        have m2 := p256_le ((xs.take size).drop (c + 1)).length 7 (by simp; omega)
        have m3 : num ((xs.take size).drop (c + 1)) < 72057594037927936 := by have : p256 7 = 72057594037927936 := rfl; omega
        generalize num ((xs.take size).drop (c + 1)) = m at *
        generalize xs[c] = v at *
        clear hcl m1 m2
        go_wp2_with fail
        rw [or_byte m v m0 m3 v0 v1]
        go_roundw
        case rel => exact ⟨c, by go_num, by omega, by rw [hN2.out], F1⟩
        case measure => simp [intOf]

theorem wgetc (p : Nat) (xs : List Int) (e0 : Value) (s : Int) (k : Nat) (hk : s = k) (hs : k ≤ 8) (w : World) (hr : RdAt w p xs e0) :
    Calls Tryd.prog 31 #[.pointer (some ⟨p, 0, none⟩), .int .i64 s] w fun e w' => GetPost p xs k e0 w e w' := by
  subst hk; exact wget p xs e0 k hs w hr
theorem RdAt.fr {S : List Nat} {w w' : World} {p : Nat} {xs : List Int} {e : Value} (h : RdAt w p xs e) (f : Fr S w w') (hS : ∀ x ∈ S, p < x) : RdAt w' p xs e := by
  obtain ⟨⟨A, cap, h1, h2, h3⟩, h4⟩ := h
  have pl := lt_of_heap h1
  exact ⟨⟨A, cap, f.heap h1 (fun hx => by have := hS p hx; omega), h2.fr f (by omega) (fun x hx => by have := hS x hx; omega), h3⟩, h4⟩
theorem RdAt.mem {w : World} {p : Nat} {xs : List Int} {e : Value} (h : RdAt w p xs e) : ∀ v ∈ xs, 0 ≤ v ∧ v ≤ 255 := by
  obtain ⟨⟨A, cap, h1, h2, h3⟩, h4⟩ := h
  exact h2.mem
theorem RdAt.lt {w : World} {p : Nat} {xs : List Int} {e : Value} (h : RdAt w p xs e) : p < w.heap.size := by
  obtain ⟨⟨A, cap, h1, h2, h3⟩, h4⟩ := h
  exact lt_of_heap h1

end Go.Proofs.YtoebfpimojkamaaDoor
