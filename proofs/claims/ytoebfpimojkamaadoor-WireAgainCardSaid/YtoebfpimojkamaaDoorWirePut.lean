/- Rows of bytes, and the contracts of package wire's functions that write. -/
import Derived.Test.YtoebfpimojkamaaDoorBase
import Derived.Lib.Hide
import Derived.IntWalk
import Derived.Maps.AppendAt
namespace Go.Proofs.YtoebfpimojkamaaDoor
open Go.RowKit

theorem ownsRow_fr {S : List Nat} {w w' : World} {base : Nat} {e : TypeId} {size : Nat} {v : Value} {n : Nat} {xs : List Value} (h : w.ownsRow base e size v n xs) (f : Fr S w w') (hS : ∀ x ∈ S, x < base) : w'.ownsRow base e size v n xs := by
  refine ⟨h.1, ?_⟩
  rcases h.2 with q | ⟨g, cap, cur, q1, q2, q3, q4⟩
  · exact Or.inl q
  · exact Or.inr ⟨g, cap, cur, q1, q2, f.heap q3 (fun hx => by have := hS g hx; omega), q4⟩
theorem own_ge {w : World} {base : Nat} {e : TypeId} {size : Nat} {v : Value} {n : Nat} {xs : List Value} (h : w.ownsRow base e size v n xs) : ∀ x ∈ v.ownBlock.toList, base ≤ x := by
  rcases h.2 with ⟨rfl, _⟩ | ⟨g, cap, cur, rfl, q2, _⟩
  · intro x hx; simp [Value.ownBlock] at hx
  · intro x hx; simp [Value.ownBlock] at hx; omega
theorem grown_fr {w w' : World} {row : Option Nat} (h : w.grownBy w' row) : Fr row.toList w w' :=
  ⟨h.os, h.tape, h.output, h.size, fun k hk hS => h.block k hk (fun e => hS (by rw [← e]; simp))⟩

/-- Bytes as cells. -/
def bcs (xs : List Int) : List Value := xs.map (Value.int .u8)
theorem bcs_len (xs : List Int) : (bcs xs).length = xs.length := by simp [bcs]
theorem bcs_app (xs ys : List Int) : bcs (xs ++ ys) = bcs xs ++ bcs ys := by simp [bcs]
theorem bcs_one (xs : List Int) : ∀ u ∈ bcs xs, u.oneCell' = true := by
  intro u hu
  simp [bcs] at hu
  obtain ⟨a, _, rfl⟩ := hu
  rfl
/-- A slice of bytes of the call's own. -/
def OwnB (w : World) (base : Nat) (v : Value) (xs : List Int) : Prop := w.ownsRow base 5 1 v xs.length (bcs xs)
theorem OwnB.fr {S : List Nat} {w w' : World} {base : Nat} {v : Value} {xs : List Int} (h : OwnB w base v xs) (f : Fr S w w') (hS : ∀ x ∈ S, x < base) : OwnB w' base v xs := ownsRow_fr h f hS
theorem OwnB.nil (w : World) (base : Nat) : OwnB w base (.slice none 0 0) [] := ⟨rfl, Or.inl ⟨rfl, rfl⟩⟩

theorem bytes_new (w : World) (xs : List Int) (T : TypeId) (q : Nat) (hq : q = w.heap.size) (cs : Array Value) (hc : cs.toList = bcs xs) : ∀ (j : Nat) (u : Value), (bcs xs)[j]? = some u → (w.alloc (.cells cs T)).cell? ((⟨q, 0, none⟩ : Addr).add j) = some u := by
  subst hq
  intro j u hj
  rw [show (⟨w.heap.size, 0, none⟩ : Addr).add j = ⟨w.heap.size, j, none⟩ by unfold Addr.add; split <;> simp_all, blk_cell (heap_alloc_new w _), ← hj, ← hc]
  simp
theorem wpList_appB {ops : Array Oper} {rest : List Oper} {o : Oper} {a : Act} {Q : Exit → Act → World → Prop} (w : World) (hgd : o.guard = none) (s x : Operand)
    (ho : o.op = .call { callee := .builtin .append, args := #[s, x], argTypes := #[26, 26] })
    (base : Nat) (v : Value) (xs : List Int) (hs : a.eval s = v) (hown : OwnB w base v xs) (ad : Addr) (m c : Nat) (ys : List Int) (hx : a.eval x = .slice (some ad) m c) (hm : ys.length = m)
    (hnews : ∀ (j : Nat) (u : Value), (bcs ys)[j]? = some u → w.cell? (ad.add j) = some u) (hsz : xs.length + ys.length ≤ 10000000) (hbase : base ≤ w.heap.size)
    (h : ∀ v' w', OwnB w' base v' (xs ++ ys) → Fr v.ownBlock.toList w w' → (∀ x ∈ v'.ownBlock.toList, x ∈ v.ownBlock.toList ∨ w.heap.size ≤ x) → wpList Tryd.prog ops Q rest (a.put o.dst v') w') : wpList Tryd.prog ops Q (o :: rest) a w := by
  obtain ⟨ti, hti, htz, hts, htb⟩ := info_parts (P := Tryd.prog) (e := 5) (z := .int .u8 0) (size := 1) (bytes := 1) (by kernel_rfl)
  refine wpList_append_own_at w hgd s x 26 ho base 5 ti (.int .u8 0) 1 1 Tryd.underlying26 hti htz hts htb rfl (by decide) v xs.length (bcs xs) hs hown ad m c (bcs ys) hx (by rw [bcs_len, hm]; omega) hnews (bcs_one ys) (by unfold maxLen; omega) (by omega) hbase ?_
  intro v' w' h1 h2 _ h4
  refine h v' w' ?_ (grown_fr h2) ?_
  · unfold OwnB
    rw [bcs_app, List.length_append, hm]
    exact h1
  · intro q hq
    rcases h4 with h4 | h4
    · left; rw [← h4]; exact hq
    · right; rw [h4] at hq; simp at hq; omega

/-- A number's bytes, the least first. -/
def le (n : Int) : Nat → List Int
  | 0 => []
  | k + 1 => n % 256 :: le (n / 256) k
theorem le_len : ∀ (k : Nat) (n : Int), (le n k).length = k
  | 0, _ => rfl
  | k + 1, n => by simp [le, le_len k]
/-- What is left of a number behind so many bytes. -/
def shrs (n : Int) : Nat → Int
  | 0 => n
  | k + 1 => shrs n k / 256
theorem shrs_shift : ∀ (k : Nat) (n : Int), shrs (n / 256) k = shrs n (k + 1)
  | 0, _ => rfl
  | k + 1, n => by
    have := shrs_shift k n
    simp only [shrs] at this ⊢
    rw [this]
theorem le_snoc : ∀ (k : Nat) (n : Int), le n (k + 1) = le n k ++ [shrs n k % 256]
  | 0, n => by simp [le, shrs]
  | k + 1, n => by
    rw [le, le_snoc k (n / 256), shrs_shift]
    simp [le]
theorem shrs_bounds : ∀ (k : Nat) (n : Int), 0 ≤ n → n ≤ 18446744073709551615 → 0 ≤ shrs n k ∧ shrs n k ≤ 18446744073709551615
  | 0, n, h0, h1 => ⟨h0, h1⟩
  | k + 1, n, h0, h1 => by
    obtain ⟨a, b⟩ := shrs_bounds k n h0 h1
    simp only [shrs]
    omega

/-- What 'put' comes to. -/
structure PutPost (base : Nat) (v : Value) (xs : List Int) (w : World) (e : Ending) (w' : World) : Prop where
  val : ∃ v', e = .returned v' ∧ OwnB w' base v' xs
  fr : Fr v.ownBlock.toList w w'

set_option maxRecDepth 100000 in
set_option maxHeartbeats 2000000 in
theorem wput (base : Nat) (v : Value) (xs : List Int) (n : Int) (size : Nat) (n0 : 0 ≤ n) (n1 : n ≤ 18446744073709551615) (hs : size ≤ 8) (hx : xs.length ≤ 100000) (w : World) (ho : OwnB w base v xs) (hb : base ≤ w.heap.size) :
    Calls Tryd.prog 27 #[v, .int .u64 n, .int .i64 size] w fun e w' => PutPost base v (xs ++ le n size) w e w' := by
  obtain ⟨ti, hti, htz, hts, htb⟩ := info_parts (P := Tryd.prog) (e := 5) (z := .int .u8 0) (size := 1) (bytes := 1) (by kernel_rfl)
  have HT := Lib.hid (And.intro hti (And.intro htz (And.intro hts htb)))
  have HO := Lib.hid ho
  have GE := Lib.hid (own_ge ho)
  clear hti htz hts htb ho
  go_enter Tryd.func27, Tryd.ntmps27
  go_wp2_with fail
  go_loopw [0, 1, 8] (fun u m i w' => ∃ j : Nat, i = .int .i64 j ∧ j ≤ size ∧ m = .int .u64 (shrs n j) ∧ OwnB w' base u (xs ++ le n j) ∧ Fr v.ownBlock.toList w w' ∧ (∀ x ∈ u.ownBlock.toList, x ∈ v.ownBlock.toList ∨ w.heap.size ≤ x)) (fun _ _ i _ => size - (intOf i).toNat)
  case atStart => exact ⟨0, rfl, by omega, rfl, by simpa [le] using HO.out, Fr.refl _ _, fun x hx => Or.inl hx⟩
  case round =>
    obtain ⟨j, rfl, j1, rfl, O1, F1, U1⟩ := hrel
    by_cases hj : j < size
    · obtain ⟨b0, b1⟩ := shrs_bounds j n n0 n1
      have HN : Hid (le n (j + 1) = le n j ++ [shrs n j % 256]) := le_snoc j n
      have HS : Hid (shrs n (j + 1) = shrs n j / 256) := rfl
      generalize shrs n j = z at *
      have hl := le_len j n
      go_wp2_with (at_builtin; refine wpList_appB _ rfl (.tmp 10) (.tmp 13) rfl base _ _ rfl (OwnB.fr (S := []) O1 (by repeat' (first | (with_reducible exact Fr.refl _ _) | (with_reducible assumption) | (with_reducible refine Fr.drew ?_) | (with_reducible refine Fr.drewN ?_ _) | (with_reducible refine Fr.alloc ?_ _) | ((with_reducible refine Fr.setNew ?_ _ ?_ _); rotate_left; (focus (first | (with_reducible assumption) | exact Nat.le_of_lt (by with_reducible assumption) | (focus (simp +arith; done)) | exact Nat.le_trans (by with_reducible assumption) (by simp +arith; done) | (simp; done)))) | ((with_reducible refine Fr.setOld ?_ _ ?_ _); rotate_left; (focus (simp; done))))) (by simp)) ⟨wr.heap.size, 0, none⟩ 1 1 [z % 256] rfl rfl (bytes_new _ _ _ _ rfl _ rfl) (by simp; omega) (by have := F1.size; simp; omega) ?_; intro v' w1 O2 F2 U2)
      go_roundw
      case rel =>
        refine ⟨j + 1, by go_num, by omega, by rw [HS.out], by rw [HN.out, ← List.append_assoc]; exact O2, Fr.trans' (by repeat' (first | (with_reducible exact Fr.refl _ _) | (with_reducible assumption) | (with_reducible refine Fr.drew ?_) | (with_reducible refine Fr.drewN ?_ _) | (with_reducible refine Fr.alloc ?_ _) | ((with_reducible refine Fr.setNew ?_ _ ?_ _); rotate_left; (focus (first | (with_reducible assumption) | exact Nat.le_of_lt (by with_reducible assumption) | (focus (simp +arith; done)) | exact Nat.le_trans (by with_reducible assumption) (by simp +arith; done) | (simp; done)))) | ((with_reducible refine Fr.setOld ?_ _ ?_ _); rotate_left; (focus (simp; done))))) F2 (fun x hx => U1 x hx), fun x hx => ?_⟩
        rcases U2 x hx with h | h
        · exact U1 x h
        · right; have := F1.size; simp at h; omega
      case measure => simp [intOf]; omega
    · have hj' : j = size := by omega
      subst hj'
      go_wp2
      go_ret
      exact ⟨⟨_, rfl, O1⟩, F1⟩

theorem OwnB.lit {w : World} {base q : Nat} (xs : List Int) (hq : w.heap[q]? = some (.cells (bcs xs).toArray 5)) (hb : base ≤ q) (hx : xs.length ≤ 10000000) (k : Nat) (hk : k = xs.length) : OwnB w base (.slice (some ⟨q, 0, none⟩) k k) xs := by
  subst hk
  exact ⟨by rw [bcs_len]; omega, Or.inr ⟨q, xs.length, _, rfl, hb, hq, Nat.le_refl _, by unfold maxLen; omega, by simp [bcs_len], by rw [List.toList_toArray, Nat.mul_one]; exact List.take_of_length_le (by simp [bcs_len])⟩⟩
theorem OwnB.cell {w : World} {base g n cap : Nat} {xs : List Int} (h : OwnB w base (.slice (some ⟨g, 0, none⟩) n cap) xs) : n = xs.length ∧ ∀ (j : Nat) (u : Value), (bcs xs)[j]? = some u → w.cell? ((⟨g, 0, none⟩ : Addr).add j) = some u := by
  rcases h.2 with ⟨q, _⟩ | ⟨g', cap', cur, q1, q2, q3, q4, q5, q6, q7⟩
  · cases q
  · simp at q1
    obtain ⟨rfl, rfl, rfl⟩ := q1
    refine ⟨rfl, fun j u hj => ?_⟩
    have hjl : j < xs.length := by have := (List.getElem?_eq_some_iff.1 hj).1; simpa [bcs_len] using this
    rw [show (⟨g, 0, none⟩ : Addr).add j = ⟨g, j, none⟩ by unfold Addr.add; split <;> simp_all, blk_cell q3, ← hj, ← q7, List.getElem?_take, if_pos (by omega)]
    simp

/-- What a function that hands back a row of bytes comes to. -/
structure RowPost (base : Nat) (xs : List Int) (w : World) (e : Ending) (w' : World) : Prop where
  val : ∃ v', e = .returned v' ∧ OwnB w' base v' xs
  fr : Fr [] w w'

set_option maxRecDepth 100000 in
set_option maxHeartbeats 2000000 in
theorem wsealed (base : Nat) (g cap : Nat) (xs : List Int) (hx : xs.length ≤ 100000) (w : World) (ho : OwnB w base (.slice (some ⟨g, 0, none⟩) xs.length cap) xs) :
    Calls Tryd.prog 28 #[.slice (some ⟨g, 0, none⟩) xs.length cap] w fun e w' => RowPost w.heap.size (((xs.length : Int) % 256) :: xs) w e w' := by
  have HO := Lib.hid ho
  have hx' : (xs.length : Int) ≤ 100000 := by omega
  clear ho
  go_enter Tryd.func28, Tryd.ntmps28
  go_wp2_with (at_builtin; refine wpList_appB _ rfl (.tmp 6) (.tmp 7) rfl w.heap.size _ [(xs.length : Int) % 256] rfl (OwnB.lit [(xs.length : Int) % 256] (by (apply heap_eq_of; (focus (repeat (first | (with_reducible assumption) | ((with_reducible refine heap_alloc_at ?_ _); first | (with_reducible rfl) | (focus (simp; done))) | (with_reducible apply heap_alloc_old) | ((with_reducible apply heap_set_other); (case hne => (first | (with_reducible assumption) | exact Nat.ne_of_lt (by with_reducible assumption) | exact Nat.ne_of_gt (by with_reducible assumption) | (focus (simp +arith; done)) | (simp; done)))) | (with_reducible apply heap_set_eq) | (with_reducible apply heap_drew_of) | (with_reducible apply heap_drewN_of)))); (focus (first | (simp; done) | rfl)))) (Nat.le_refl _) (by simp) 1 rfl) ⟨g, 0, none⟩ xs.length cap xs rfl rfl (OwnB.cell (OwnB.fr (S := []) HO.out (by repeat' (first | (with_reducible exact Fr.refl _ _) | (with_reducible assumption) | (with_reducible refine Fr.drew ?_) | (with_reducible refine Fr.drewN ?_ _) | (with_reducible refine Fr.alloc ?_ _) | ((with_reducible refine Fr.setNew ?_ _ ?_ _); rotate_left; (focus (first | (with_reducible assumption) | exact Nat.le_of_lt (by with_reducible assumption) | (focus (simp +arith; done)) | exact Nat.le_trans (by with_reducible assumption) (by simp +arith; done) | (simp; done)))) | ((with_reducible refine Fr.setOld ?_ _ ?_ _); rotate_left; (focus (simp; done))))) (by simp))).2 (by simp; omega) (by simp) ?_; intro v' w1 O2 F2 U2)
  go_ret
  refine ⟨⟨_, rfl, O2⟩, Fr.trans' (S := []) (by repeat' (first | (with_reducible exact Fr.refl _ _) | (with_reducible assumption) | (with_reducible refine Fr.drew ?_) | (with_reducible refine Fr.drewN ?_ _) | (with_reducible refine Fr.alloc ?_ _) | ((with_reducible refine Fr.setNew ?_ _ ?_ _); rotate_left; (focus (first | (with_reducible assumption) | exact Nat.le_of_lt (by with_reducible assumption) | (focus (simp +arith; done)) | exact Nat.le_trans (by with_reducible assumption) (by simp +arith; done) | (simp; done)))) | ((with_reducible refine Fr.setOld ?_ _ ?_ _); rotate_left; (focus (simp; done))))) F2 (by intro x hx; simp [Value.ownBlock, Act.eval] at hx; right; omega)⟩

end Go.Proofs.YtoebfpimojkamaaDoor
