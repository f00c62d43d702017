/- Bytes that are handed about, and the plain functions of the reference of layer 24. -/
import Derived.Test.YtoebfpimojkamaaDoorWireRead2
namespace Go.Proofs.YtoebfpimojkamaaDoor
open Go.RowKit

theorem Fr.keep {S : List Nat} {w w' : World} (f : Fr S w w') (hS : ∀ x ∈ S, w.heap.size ≤ x) : Fr [] w w' := f.mono (fun x hx => Or.inr (hS x hx))
def byteOk (xs : List Int) : Prop := ∀ v ∈ xs, 0 ≤ v ∧ v ≤ 255
instance (xs : List Int) : Decidable (byteOk xs) := inferInstanceAs (Decidable (∀ v ∈ xs, 0 ≤ v ∧ v ≤ 255))
theorem byteOk.app {xs ys : List Int} (h : byteOk xs) (k : byteOk ys) : byteOk (xs ++ ys) := fun v hv => (List.mem_append.1 hv).elim (h v) (k v)
theorem le_ok : ∀ (k : Nat) (n : Int), byteOk (le n k)
  | 0, _ => by intro v hv; simp [le] at hv
  | k + 1, n => by
    intro v hv
    simp only [le, List.mem_cons] at hv
    rcases hv with rfl | hv
    · omega
    · exact le_ok k _ v hv
theorem les_ok : ∀ l : List Int, byteOk (les l)
  | [] => by intro v hv; simp [les] at hv
  | v :: r => (le_ok 8 v).app (les_ok r)
theorem byteOk.cons {x : Int} {xs : List Int} (h0 : 0 ≤ x) (h1 : x ≤ 255) (h : byteOk xs) : byteOk (x :: xs) := by
  intro v hv
  rcases List.mem_cons.1 hv with rfl | hv
  · exact ⟨h0, h1⟩
  · exact h v hv

/-- A slice of bytes that nobody changes. -/
def SlB (w : World) (v : Value) (xs : List Int) : Prop := ∃ A cap, v = .slice A xs.length cap ∧ NAt w .u8 255 w.heap.size A xs ∧ xs.length ≤ cap
theorem SlB.fr {S : List Nat} {w w' : World} {v : Value} {xs : List Int} (h : SlB w v xs) (f : Fr S w w') (hS : ∀ x ∈ S, w.heap.size ≤ x) : SlB w' v xs := by
  obtain ⟨A, cap, rfl, h1, h2⟩ := h
  exact ⟨A, cap, rfl, (h1.fr f (Nat.le_refl _) hS).up f.size, h2⟩
/-- .. that lies below a block. -/
def SlT (top : Nat) (w : World) (v : Value) (xs : List Int) : Prop := ∃ A cap, v = .slice A xs.length cap ∧ NAt w .u8 255 top A xs ∧ xs.length ≤ cap
theorem SlT.fr {top : Nat} {S : List Nat} {w w' : World} {v : Value} {xs : List Int} (h : SlT top w v xs) (f : Fr S w w') (ht : top ≤ w.heap.size) (hS : ∀ x ∈ S, top ≤ x) : SlT top w' v xs := by
  obtain ⟨A, cap, rfl, h1, h2⟩ := h
  exact ⟨A, cap, rfl, h1.fr f ht hS, h2⟩
theorem SlT.sl {top : Nat} {w : World} {v : Value} {xs : List Int} (h : SlT top w v xs) (ht : top ≤ w.heap.size) : SlB w v xs := by
  obtain ⟨A, cap, rfl, h1, h2⟩ := h
  exact ⟨A, cap, rfl, h1.up ht, h2⟩
theorem SlB.ok {w : World} {v : Value} {xs : List Int} (h : SlB w v xs) : byteOk xs := by
  obtain ⟨A, cap, rfl, h1, h2⟩ := h
  exact h1.mem
theorem SlB.nil (w : World) : SlB w (.slice none 0 0) [] := ⟨none, 0, rfl, NAt.nil _ _ _ _ _, Nat.le_refl _⟩
theorem OwnB.sl {w : World} {base : Nat} {v : Value} {xs : List Int} (h : OwnB w base v xs) (hb : byteOk xs) : SlB w v xs := by
  obtain ⟨h0, ⟨rfl, h1⟩ | ⟨g, cap, cur, rfl, q1, q2, q3, q4, q5, q6⟩⟩ := h
  · exact ⟨none, 0, by rw [h1], by rw [List.length_eq_zero_iff.1 h1]; exact NAt.nil _ _ _ _ _, by omega⟩
  · refine ⟨_, cap, rfl, Or.inr ⟨g, 0, rfl, lt_of_heap q2, fun i x hx => ⟨?_, hb x (List.mem_of_getElem? hx)⟩⟩, q3⟩
    have hl := (List.getElem?_eq_some_iff.1 hx).1
    have := congrArg (fun l => l[i]?) q6
    simp only [Nat.mul_one] at this
    rw [List.getElem?_take, if_pos hl] at this
    rw [Nat.zero_add, blk_cell q2]
    simp [bcs, hx] at this
    simpa using this

theorem run_app_nil (w : World) (base : Nat) (v : Value) (xs : List Int) (hown : OwnB w base v xs) (c : Nat) : (Builtin.append_ #[26, 26] 26 #[v, .slice none 0 c]).run Tryd.prog w = .ok v w := by
  obtain ⟨ti, hti, htz, hts, htb⟩ := info_parts (P := Tryd.prog) (e := 5) (z := .int .u8 0) (size := 1) (bytes := 1) (by kernel_rfl)
  rcases hown.2 with ⟨rfl, h⟩ | ⟨g, cap, cur, rfl, _, _, hnc, _⟩
  · simp [Builtin.append_, run_underlying Tryd.underlying26, sizeOf, typeInfo, hti, Builtin.lenOf, Builtin.firstCells]
  · simp [Builtin.append_, run_underlying Tryd.underlying26, sizeOf, typeInfo, hti, Builtin.lenOf, Builtin.firstCells, hnc, storeCells]
/-- What an append of bytes comes to, its source nil, empty or not. -/
theorem app_run (w : World) (base : Nat) (v : Value) (xs : List Int) (hown : OwnB w base v xs) (u : Value) (ys : List Int) (hu : SlB w u ys) (hsz : xs.length + ys.length ≤ 10000000) (hb : base ≤ w.heap.size) :
    ∃ v' w', (Builtin.append_ #[26, 26] 26 #[v, u]).run Tryd.prog w = .ok v' w' ∧ OwnB w' base v' (xs ++ ys) ∧ Fr v.ownBlock.toList w w' ∧ (∀ x ∈ v'.ownBlock.toList, x ∈ v.ownBlock.toList ∨ w.heap.size ≤ x) := by
  obtain ⟨A, cap, rfl, hN, _⟩ := hu
  cases A with
  | none =>
    have hy : ys = [] := by
      rcases hN with h | ⟨b, off, h, _⟩
      · exact h
      · cases h
    subst hy
    exact ⟨v, w, run_app_nil w base v xs hown cap, by simpa using hown, Fr.refl _ _, fun x hx => Or.inl hx⟩
  | some A =>
    obtain ⟨ti, hti, htz, hts, htb⟩ := info_parts (P := Tryd.prog) (e := 5) (z := .int .u8 0) (size := 1) (bytes := 1) (by kernel_rfl)
    obtain ⟨v', w', h1, h2, h3, _, h5⟩ := run_append_own_at w base 26 26 5 ti (.int .u8 0) 1 1 Tryd.underlying26 hti htz hts htb rfl (by decide) v xs.length (bcs xs) hown A ys.length cap (bcs ys) (by rw [bcs_len]; omega) hN.news (bcs_one ys) (by unfold maxLen; omega) (by omega) hb
    refine ⟨v', w', h1, by unfold OwnB; rw [bcs_app, List.length_append]; exact h2, grown_fr h3, fun q hq => ?_⟩
    rcases h5 with h4 | h4
    · left; rw [← h4]; exact hq
    · right; rw [h4] at hq; simp at hq; omega
theorem wpList_appS {ops : Array Oper} {rest : List Oper} {o : Oper} {a : Act} {Q : Exit → Act → World → Prop} (w : World) (hgd : o.guard = none) (s x : Operand)
    (ho : o.op = .call { callee := .builtin .append, args := #[s, x], argTypes := #[26, 26] }) (hty : o.type = 26)
    (base : Nat) (v : Value) (xs : List Int) (hs : a.eval s = v) (hown : OwnB w base v xs) (u : Value) (ys : List Int) (hx : a.eval x = u) (hu : SlB w u ys) (hsz : xs.length + ys.length ≤ 10000000) (hbase : base ≤ w.heap.size)
    (h : ∀ v' w', OwnB w' base v' (xs ++ ys) → Fr v.ownBlock.toList w w' → (∀ x ∈ v'.ownBlock.toList, x ∈ v.ownBlock.toList ∨ w.heap.size ≤ x) → wpList Tryd.prog ops Q rest (a.put o.dst v') w') : wpList Tryd.prog ops Q (o :: rest) a w := by
  obtain ⟨v', w', hrun, h2, h3, h4⟩ := app_run w base v xs hown u ys hu hsz hbase
  exact Lib.wpList_append_run w hgd s x 26 26 ho v u hs hx v' w' (by rw [hty]; exact hrun) (h v' w' h2 h3 h4)

set_option maxRecDepth 100000 in
set_option maxHeartbeats 2000000 in
theorem rjoin (va vb : Value) (xs ys : List Int) (hx : xs.length ≤ 100000) (hy : ys.length ≤ 100000) (w : World) (ha : SlB w va xs) (hb : SlB w vb ys) :
    Calls Tryd.prog 35 #[va, vb] w fun e w' => RowPost w.heap.size (xs ++ ys) w e w' := by
  have HA := Lib.hid ha
  have HB := Lib.hid hb
  clear ha hb
  go_enter Tryd.func35, Tryd.ntmps35
  go_wp2_with (first
    | (at_builtin; refine wpList_appS _ rfl (.tmp 5) (.tmp 6) rfl rfl w.heap.size _ [] rfl (OwnB.lit [] (by (apply heap_eq_of; (focus (repeat (first | (with_reducible assumption) | ((with_reducible refine heap_alloc_at ?_ _); first | (with_reducible rfl) | (focus (simp; done))) | (with_reducible apply heap_alloc_old) | ((with_reducible apply heap_set_other); (case hne => (first | (with_reducible assumption) | exact Nat.ne_of_lt (by with_reducible assumption) | exact Nat.ne_of_gt (by with_reducible assumption) | (focus (simp +arith; done)) | (simp; done)))) | (with_reducible apply heap_set_eq) | (with_reducible apply heap_drew_of) | (with_reducible apply heap_drewN_of)))); (focus (first | (simp; done) | rfl)))) (Nat.le_refl _) (by simp) 0 rfl) va xs rfl (HA.out.fr (S := []) (by repeat' (first | (with_reducible exact Fr.refl _ _) | (with_reducible assumption) | (with_reducible refine Fr.drew ?_) | (with_reducible refine Fr.drewN ?_ _) | (with_reducible refine Fr.alloc ?_ _) | ((with_reducible refine Fr.setNew ?_ _ ?_ _); rotate_left; (focus (first | (with_reducible assumption) | exact Nat.le_of_lt (by with_reducible assumption) | (focus (simp +arith; done)) | exact Nat.le_trans (by with_reducible assumption) (by simp +arith; done) | (simp; done)))) | ((with_reducible refine Fr.setOld ?_ _ ?_ _); rotate_left; (focus (simp; done))))) (by simp)) (by simp; omega) (by simp) ?_; intro v1 w1 O1 G1 U1; have G1' : Fr [w.heap.size] (w.alloc (.cells #[] 5)) w1 := G1; have F1 : Fr [] w w1 := Fr.trans' (S := []) (by repeat' (first | (with_reducible exact Fr.refl _ _) | (with_reducible assumption) | (with_reducible refine Fr.drew ?_) | (with_reducible refine Fr.drewN ?_ _) | (with_reducible refine Fr.alloc ?_ _) | ((with_reducible refine Fr.setNew ?_ _ ?_ _); rotate_left; (focus (first | (with_reducible assumption) | exact Nat.le_of_lt (by with_reducible assumption) | (focus (simp +arith; done)) | exact Nat.le_trans (by with_reducible assumption) (by simp +arith; done) | (simp; done)))) | ((with_reducible refine Fr.setOld ?_ _ ?_ _); rotate_left; (focus (simp; done))))) G1' (by simp); have z1 := F1.size; have HO1 := Lib.hid O1; have HU1 := Lib.hid U1; clear G1 G1' O1 U1)
    | (at_builtin; refine wpList_appS _ rfl (.tmp 7) (.tmp 8) rfl rfl w.heap.size _ ([] ++ xs) rfl HO1.out vb ys rfl (HB.out.fr F1 (by simp)) (by simp; omega) z1 ?_; intro v2 w2 O2 G2 U2; have HG2 := Lib.hid G2; clear G2))
  go_ret
  exact ⟨⟨v2, rfl, O2⟩, Fr.trans' F1 HG2.out (fun x hx => Or.inr (own_ge HO1.out x hx))⟩

theorem shr8 (n : Int) : ∀ (j : Nat), n / (2 : Int) ^ (8 * j) = shrs n j
  | 0 => by simp [shrs]
  | j + 1 => by
    have h : (0 : Int) ≤ 2 ^ (8 * j) := Int.le_of_lt (Int.pow_pos (by decide))
    rw [shrs, ← shr8 n j, Int.ediv_ediv_of_nonneg h, Nat.mul_succ, Int.pow_add]
    rfl

set_option maxRecDepth 100000 in
set_option maxHeartbeats 2000000 in
theorem rbytes (n : Int) (size : Nat) (n0 : 0 ≤ n) (n1 : n ≤ 18446744073709551615) (hs : size ≤ 8) (w : World) :
    Calls Tryd.prog 34 #[.int .u64 n, .int .i64 size] w fun e w' => RowPost w.heap.size (le n size) w e w' := by
  go_enter Tryd.func34, Tryd.ntmps34
  go_wp2_with fail
  go_loopw [5, 6] (fun u i w' => ∃ j : Nat, i = .int .i64 j ∧ j ≤ size ∧ OwnB w' w.heap.size u (le n j) ∧ Fr [] w w') (fun _ i _ => size - (intOf i).toNat)
  case atStart => exact ⟨0, rfl, by omega, OwnB.nil _ _, Fr.refl _ _⟩
  case round =>
    obtain ⟨j, rfl, j1, O1, F1⟩ := hrel
    by_cases hj : j < size
    · have HN : Hid (le n (j + 1) = le n j ++ [n / 2 ^ (8 * j) % 256]) := by unfold Hid; rw [le_snoc, shr8]
      have hl := le_len j n
      go_wp2_with (at_builtin; refine wpList_appB _ rfl (.tmp 12) (.tmp 19) rfl w.heap.size _ _ rfl (OwnB.fr (S := []) O1 (by repeat' (first | (with_reducible exact Fr.refl _ _) | (with_reducible assumption) | (with_reducible refine Fr.drew ?_) | (with_reducible refine Fr.drewN ?_ _) | (with_reducible refine Fr.alloc ?_ _) | ((with_reducible refine Fr.setNew ?_ _ ?_ _); rotate_left; (focus (first | (with_reducible assumption) | exact Nat.le_of_lt (by with_reducible assumption) | (focus (simp +arith; done)) | exact Nat.le_trans (by with_reducible assumption) (by simp +arith; done) | (simp; done)))) | ((with_reducible refine Fr.setOld ?_ _ ?_ _); rotate_left; (focus (simp; done))))) (by simp)) ⟨wr.heap.size, 0, none⟩ 1 1 [n / 2 ^ (8 * j) % 256] rfl rfl (bytes_new _ _ _ _ rfl _ rfl) (by simp; omega) (by have := F1.size; simp; omega) ?_; intro v' w1 O2 F2 U2)
      go_roundw
      case rel => exact ⟨j + 1, by go_num, by omega, by rw [HN.out]; exact O2, Fr.trans' (by repeat' (first | (with_reducible exact Fr.refl _ _) | (with_reducible assumption) | (with_reducible refine Fr.drew ?_) | (with_reducible refine Fr.drewN ?_ _) | (with_reducible refine Fr.alloc ?_ _) | ((with_reducible refine Fr.setNew ?_ _ ?_ _); rotate_left; (focus (first | (with_reducible assumption) | exact Nat.le_of_lt (by with_reducible assumption) | (focus (simp +arith; done)) | exact Nat.le_trans (by with_reducible assumption) (by simp +arith; done) | (simp; done)))) | ((with_reducible refine Fr.setOld ?_ _ ?_ _); rotate_left; (focus (simp; done))))) F2 (fun x hx => Or.inr (own_ge O1 x hx))⟩
      case measure => simp [intOf]; omega
    · have hj' : j = size := by omega
      subst hj'
      go_wp2
      go_ret
      exact ⟨⟨_, rfl, O1⟩, F1⟩

theorem num_app1 (b : Int) (l : List Int) : num (b :: l) = b + 256 * num l := rfl
set_option maxRecDepth 100000 in
set_option maxHeartbeats 2000000 in
theorem rnumber (A : Option Addr) (cap : Nat) (xs : List Int) (hl : xs.length ≤ 8) (w : World) (hN : NAt w .u8 255 w.heap.size A xs) :
    Calls Tryd.prog 37 #[.slice A xs.length cap] w fun e w' => e = .returned (.int .u64 (num xs)) ∧ w = w' := by
  have hB : Hid (∀ v ∈ xs, 0 ≤ v ∧ v ≤ 255) := hN.mem
  have HN := Lib.hid hN
  have hl' : (xs.length : Int) ≤ 8 := by omega
  clear hN
  go_enter Tryd.func37, Tryd.ntmps37
  go_wp2_with fail
  go_loop [3, 4] (fun n i => ∃ c : Nat, i = .int .i64 ((c : Int) - 1) ∧ c ≤ xs.length ∧ n = .int .u64 (num (xs.drop c))) (fun _ i => (intOf i + 1).toNat)
  case atStart => exact ⟨xs.length, rfl, by omega, by rw [List.drop_of_length_le (by omega)]; rfl⟩
  case round =>
    obtain ⟨c, rfl, c1, rfl⟩ := hrel
    rcases c with _ | c
    · go_wp2
      go_ret
      exact ⟨rfl, rfl⟩
    · rcases HN.out with hz | ⟨b, off, rfl, hb, hcl⟩
      · simp [hz] at c1
      obtain ⟨qc, v0, v1⟩ := hcl c xs[c] (by simp)
      have hN2 : Hid (num (xs.drop c) = xs[c] + 256 * num (xs.drop (c + 1))) := by
        unfold Hid
        rw [List.drop_eq_getElem_cons (by omega)]
        rfl
      obtain ⟨m0, m1⟩ := num_bounds (xs.drop (c + 1)) (fun v hv => hB.out v (List.mem_of_mem_drop hv))
      have m2 := p256_le (xs.drop (c + 1)).length 7 (by simp; omega)
      have m3 : num (xs.drop (c + 1)) < 72057594037927936 := by have : p256 7 = 72057594037927936 := rfl; omega
      generalize num (xs.drop (c + 1)) = m at *
      generalize xs[c] = v at *
      clear hcl m1 m2
      go_wp2
      go_round
      case rel => exact ⟨c, by go_num, by omega, by rw [hN2.out, Int.mul_comm m, Int.add_comm]⟩
      case measure => simp [intOf]

theorem rnumberk (A : Option Addr) (cap : Nat) (xs : List Int) (k : Nat) (hk : k = xs.length) (hl : xs.length ≤ 8) (w : World) (hN : NAt w .u8 255 w.heap.size A xs) :
    Calls Tryd.prog 37 #[.slice A k cap] w fun e w' => e = .returned (.int .u64 (num xs)) ∧ w = w' := by
  subst hk; exact rnumber A cap xs hl w hN

/-- What 'record' comes to. -/
structure RecPost (top : Nat) (xs : List Int) (w : World) (e : Ending) (w' : World) : Prop where
  val : (recOf xs = none ∧ e = .returned (.tuple #[.slice none 0 0, .slice none 0 0])) ∨ ∃ r rest va vb, recOf xs = some (r, rest) ∧ e = .returned (.tuple #[va, vb]) ∧ SlT top w va r ∧ SlT top w vb rest
  fr : Fr [] w w'
theorem SlT.cut {top : Nat} {w : World} {A : Option Addr} {xs : List Int} (h : NAt w .u8 255 top A xs) (lo hi : Nat) (hl : lo ≤ hi) (hh : hi ≤ xs.length) (c : Nat) (hc : hi - lo ≤ c) (B : Option Addr) (hB : lo < hi → B = A.map fun x => x.add lo) :
    SlT top w (.slice B (hi - lo) c) ((xs.take hi).drop lo) := by
  have hlen : ((xs.take hi).drop lo).length = hi - lo := by simp; omega
  refine ⟨B, c, by rw [hlen], ?_, by omega⟩
  by_cases hz : lo < hi
  · rw [hB hz]
    exact (h.take hi).drop lo
  · rw [List.drop_of_length_le (by simp; omega)]
    exact NAt.nil _ _ _ _ _

set_option maxRecDepth 100000 in
set_option maxHeartbeats 2000000 in
theorem rrecord (A : Option Addr) (cap : Nat) (xs : List Int) (hc : xs.length ≤ cap) (hl : xs.length ≤ 1000) (top : Nat) (w : World) (hN : NAt w .u8 255 top A xs) :
    Calls Tryd.prog 36 #[.slice A xs.length cap] w fun e w' => RecPost top xs w e w' := by
  have fol : Tryd.prog.follows .mixedOrders = true := by kernel_rfl
  rcases xs with _ | ⟨h, t⟩
  · go_enter Tryd.func36, Tryd.ntmps36
    go_wp2_with fail
    refine bodyPost_ret (v := .tuple #[.slice none 0 0, .slice none 0 0]) (by simp [results, Tryd.results36, go_sem, *]) rfl ⟨Or.inl ⟨rfl, rfl⟩, (by repeat' (first | (with_reducible exact Fr.refl _ _) | (with_reducible assumption) | (with_reducible refine Fr.drew ?_) | (with_reducible refine Fr.drewN ?_ _) | (with_reducible refine Fr.alloc ?_ _) | ((with_reducible refine Fr.setNew ?_ _ ?_ _); rotate_left; (focus (first | (with_reducible assumption) | exact Nat.le_of_lt (by with_reducible assumption) | (focus (simp +arith; done)) | exact Nat.le_trans (by with_reducible assumption) (by simp +arith; done) | (simp; done)))) | ((with_reducible refine Fr.setOld ?_ _ ?_ _); rotate_left; (focus (simp; done)))))⟩
  · have HN := Lib.hid hN
    rcases hN with hz | ⟨b, off, rfl, hb, hcl⟩
    · cases hz
    obtain ⟨qc, v0, v1⟩ := hcl 0 h rfl
    simp only [Nat.add_zero] at qc
    obtain ⟨n, rfl⟩ : ∃ n : Nat, h = n := ⟨h.toNat, by omega⟩
    simp only [List.length_cons] at hc hl ⊢
    have tl : (t.length : Int) ≤ 999 := by omega
    have tz : ((t.length : Int) + 1 == 0) = false := by rw [beq_eq_false_iff_ne]; omega
    clear hcl
    by_cases hn : n ≤ t.length
    · have HR : Hid (recOf ((n : Int) :: t) = some (t.take n, t.drop n)) := by simp [Hid, recOf, hn]
      go_enter Tryd.func36, Tryd.ntmps36
      go_wp2_with fail
      refine wp_region_seq_lit (fun w' => Fr [] w w' ∧ w'.cell? ⟨b, off, none⟩ = some (.int .u8 n)) fol (by kernel_rfl) ⟨(Fr.refl _ _).drew, qc⟩ ?_
      by_cases h1 : cap = 1
      · obtain rfl : n = 0 := by omega
        obtain rfl : t = [] := List.length_eq_zero_iff.1 (by omega)
        subst h1
        (repeat (apply SeqS.cons; (focus (intro wv hSv; obtain ⟨s1, s2⟩ := hSv; skip; go_wp2_with (fail); exact StepPost.mk rfl ⟨s1, s2⟩)); (try simp only [Act.put, List.setIfInBounds_toArray, List.set_cons_zero, List.set_cons_succ])))
        refine SeqS.nil ?_
        rintro w1 ⟨s1, s2⟩
        go_wp2_with fail
        refine bodyPost_ret (v := .tuple #[.slice (some ⟨b, off, none⟩) 0 0, .slice (some ⟨b, off, none⟩) 0 0]) (by simp [results, Tryd.results36, go_sem, *]) rfl ⟨Or.inr ⟨[], [], _, _, HR.out, rfl, ⟨_, _, rfl, NAt.nil _ _ _ _ _, by simp⟩, ⟨_, _, rfl, NAt.nil _ _ _ _ _, by simp⟩⟩, (by repeat' (first | (with_reducible exact Fr.refl _ _) | (with_reducible assumption) | (with_reducible refine Fr.drew ?_) | (with_reducible refine Fr.drewN ?_ _) | (with_reducible refine Fr.alloc ?_ _) | ((with_reducible refine Fr.setNew ?_ _ ?_ _); rotate_left; (focus (first | (with_reducible assumption) | exact Nat.le_of_lt (by with_reducible assumption) | (focus (simp +arith; done)) | exact Nat.le_trans (by with_reducible assumption) (by simp +arith; done) | (simp; done)))) | ((with_reducible refine Fr.setOld ?_ _ ?_ _); rotate_left; (focus (simp; done)))))⟩
      · have h1' : ¬ 1 = cap := by omega
        by_cases h2 : 1 + n = cap
        · obtain rfl : n = t.length := by omega
          subst h2
          have ht : ¬ t = [] := by rintro rfl; simp at h1
          have S1 := Lib.hid (SlT.cut HN.out 1 (1 + t.length) (by omega) (by simp; omega) (1 + t.length - 1) (by omega) (some ⟨b, off + 1, none⟩) (fun _ => by simp [Addr.add]))
          have e1 : Hid (((((t.length : Int) :: t).take (1 + t.length)).drop 1) = t) := by unfold Hid; rw [Nat.add_comm]; simp
          (repeat (apply SeqS.cons; (focus (intro wv hSv; obtain ⟨s1, s2⟩ := hSv; skip; go_wp2_with (fail); exact StepPost.mk rfl ⟨s1, s2⟩)); (try simp only [Act.put, List.setIfInBounds_toArray, List.set_cons_zero, List.set_cons_succ])))
          refine SeqS.nil ?_
          rintro w1 ⟨s1, s2⟩
          go_wp2_with fail
          have S3 : SlT top w (.slice (some ⟨b, off + 1, none⟩) t.length t.length) t := by
            have := S1.out
            rw [e1.out] at this
            simpa using this
          refine bodyPost_ret (v := .tuple #[.slice (some ⟨b, off + 1, none⟩) t.length t.length, .slice (some ⟨b, off, none⟩) 0 0]) (by simp [results, Tryd.results36, go_sem, *]) rfl ⟨Or.inr ⟨t, [], _, _, by rw [HR.out]; simp, rfl, S3, ⟨_, _, rfl, NAt.nil _ _ _ _ _, by simp⟩⟩, (by repeat' (first | (with_reducible exact Fr.refl _ _) | (with_reducible assumption) | (with_reducible refine Fr.drew ?_) | (with_reducible refine Fr.drewN ?_ _) | (with_reducible refine Fr.alloc ?_ _) | ((with_reducible refine Fr.setNew ?_ _ ?_ _); rotate_left; (focus (first | (with_reducible assumption) | exact Nat.le_of_lt (by with_reducible assumption) | (focus (simp +arith; done)) | exact Nat.le_trans (by with_reducible assumption) (by simp +arith; done) | (simp; done)))) | ((with_reducible refine Fr.setOld ?_ _ ?_ _); rotate_left; (focus (simp; done)))))⟩
        · have S1 := Lib.hid (SlT.cut HN.out 1 (1 + n) (by omega) (by simp; omega) (cap - 1) (by omega) (some ⟨b, off + 1, none⟩) (fun _ => by simp [Addr.add]))
          have S2 := Lib.hid (SlT.cut HN.out (1 + n) (t.length + 1) (by omega) (by simp) (cap - (1 + n)) (by omega) (some ⟨b, off + (1 + n), none⟩) (fun _ => by simp [Addr.add]))
          have e1 : Hid (((((n : Int) :: t).take (1 + n)).drop 1) = t.take n) := by unfold Hid; rw [Nat.add_comm]; simp
          have e2 : Hid (((((n : Int) :: t).take (t.length + 1)).drop (1 + n)) = t.drop n) := by unfold Hid; rw [Nat.add_comm 1 n]; simp
          have e3 : Hid (1 + n - 1 = n) := by unfold Hid; omega
          (repeat (apply SeqS.cons; (focus (intro wv hSv; obtain ⟨s1, s2⟩ := hSv; skip; go_wp2_with (fail); exact StepPost.mk rfl ⟨s1, s2⟩)); (try simp only [Act.put, List.setIfInBounds_toArray, List.set_cons_zero, List.set_cons_succ])))
          refine SeqS.nil ?_
          rintro w1 ⟨s1, s2⟩
          go_wp2_with fail
          refine bodyPost_ret (v := .tuple #[.slice (some ⟨b, off + 1, none⟩) n (cap - 1), .slice (some ⟨b, off + (1 + n), none⟩) (t.length + 1 - (1 + n)) (cap - (1 + n))]) (by simp [results, Tryd.results36, go_sem, *]) rfl ⟨Or.inr ⟨_, _, _, _, HR.out, rfl, by rw [← e1.out]; have := S1.out; rw [e3.out] at this; exact this, by rw [← e2.out]; exact S2.out⟩, (by repeat' (first | (with_reducible exact Fr.refl _ _) | (with_reducible assumption) | (with_reducible refine Fr.drew ?_) | (with_reducible refine Fr.drewN ?_ _) | (with_reducible refine Fr.alloc ?_ _) | ((with_reducible refine Fr.setNew ?_ _ ?_ _); rotate_left; (focus (first | (with_reducible assumption) | exact Nat.le_of_lt (by with_reducible assumption) | (focus (simp +arith; done)) | exact Nat.le_trans (by with_reducible assumption) (by simp +arith; done) | (simp; done)))) | ((with_reducible refine Fr.setOld ?_ _ ?_ _); rotate_left; (focus (simp; done)))))⟩
    · have HR : Hid (recOf ((n : Int) :: t) = none) := by simp [Hid, recOf, hn]
      go_enter Tryd.func36, Tryd.ntmps36
      go_wp2_with fail
      refine bodyPost_ret (v := .tuple #[.slice none 0 0, .slice none 0 0]) (by simp [results, Tryd.results36, go_sem, *]) rfl ⟨Or.inl ⟨HR.out, rfl⟩, (by repeat' (first | (with_reducible exact Fr.refl _ _) | (with_reducible assumption) | (with_reducible refine Fr.drew ?_) | (with_reducible refine Fr.drewN ?_ _) | (with_reducible refine Fr.alloc ?_ _) | ((with_reducible refine Fr.setNew ?_ _ ?_ _); rotate_left; (focus (first | (with_reducible assumption) | exact Nat.le_of_lt (by with_reducible assumption) | (focus (simp +arith; done)) | exact Nat.le_trans (by with_reducible assumption) (by simp +arith; done) | (simp; done)))) | ((with_reducible refine Fr.setOld ?_ _ ?_ _); rotate_left; (focus (simp; done)))))⟩

/-- What 'values' comes to. -/
structure RValsPost (xs : List Int) (w : World) (e : Ending) (w' : World) : Prop where
  val : (¬ (xs.length % 8 = 0 ∧ xs.length ≤ 64) ∧ e = .returned (.tuple #[.slice none 0 0, .bool false])) ∨ (xs.length % 8 = 0 ∧ xs.length ≤ 64 ∧ ∃ v, e = .returned (.tuple #[v, .bool true]) ∧ OwnW w' w.heap.size v (wordsN xs (xs.length / 8)))
  fr : Fr [] w w'

set_option maxRecDepth 100000 in
set_option maxHeartbeats 2000000 in
theorem rvalues (A : Option Addr) (cap : Nat) (xs : List Int) (hc : xs.length ≤ cap) (hl : xs.length ≤ 1000) (w : World) (hN : NAt w .u8 255 w.heap.size A xs) :
    Calls Tryd.prog 38 #[.slice A xs.length cap] w fun e w' => RValsPost xs w e w' := by
  have HN := Lib.hid hN
  have hl' : (xs.length : Int) ≤ 1000 := by omega
  have HM := Lib.hid (wordsN_mem xs hN.mem)
  clear hN
  by_cases h1 : xs.length % 8 = 0 ∧ xs.length ≤ 64
  · obtain ⟨c8, h8⟩ : ∃ c, xs.length = 8 * c := ⟨xs.length / 8, by omega⟩
    have h64 := h1.2
    have H1 := Lib.hid h1
    have hm : ((xs.length : Int) % 8 != 0) = false := by simp; omega
    have H8 := Lib.hid h8
    clear h1 h8
    go_enter Tryd.func38, Tryd.ntmps38
    go_wp2_with fail
    go_loopw [4, 5] (fun u i w' => ∃ c : Nat, i = .int .i64 ((8 * c : Nat) : Int) ∧ 8 * c ≤ xs.length ∧ OwnW w' w.heap.size u (wordsN xs c) ∧ Fr [] w w') (fun _ i _ => xs.length - (intOf i).toNat)
    case atStart => exact ⟨0, rfl, by omega, OwnW.nil _ _, Fr.refl _ _⟩
    case round =>
      obtain ⟨c, rfl, c1, O1, F1⟩ := hrel
      have HO1 := Lib.hid O1
      clear O1
      have h8 := H8.out
      by_cases hd : c = c8
      · subst hd
        have hx : ¬ 8 * c < xs.length := by omega
        clear h8
        go_wp2_with fail
        go_ret2
        have h8 : xs.length / 8 = c := by have := H8.out; omega
        exact ⟨Or.inr ⟨H1.out.1, H1.out.2, u4, rfl, by rw [h8]; exact HO1.out⟩, F1⟩
      · have hx : 8 * c + 8 ≤ xs.length := by omega
        clear h8
        have hlen : Hid (8 = ((xs.drop (8 * c)).take 8).length) := by unfold Hid; simp; omega
        have hls := wordsN_len xs c
        go_wp2_with fail
        refine (rnumberk _ _ _ 8 hlen.out (Nat.le_of_eq hlen.out.symm) _ (((NAt.fr (S := []) HN.out F1 (Nat.le_refl _) (by simp)).up F1.size |>.drop (8 * c)).take 8)).mono ?_
        rintro e w2 ⟨rfl, rfl⟩
        go_wp2_with (at_builtin; refine wpList_appW _ rfl (.tmp 21) (.tmp 28) rfl w.heap.size _ (wordsN xs c) rfl (OwnW.fr (S := []) HO1.out (by repeat' (first | (with_reducible exact Fr.refl _ _) | (with_reducible assumption) | (with_reducible refine Fr.drew ?_) | (with_reducible refine Fr.drewN ?_ _) | (with_reducible refine Fr.alloc ?_ _) | ((with_reducible refine Fr.setNew ?_ _ ?_ _); rotate_left; (focus (first | (with_reducible assumption) | exact Nat.le_of_lt (by with_reducible assumption) | (focus (simp +arith; done)) | exact Nat.le_trans (by with_reducible assumption) (by simp +arith; done) | (simp; done)))) | ((with_reducible refine Fr.setOld ?_ _ ?_ _); rotate_left; (focus (simp; done))))) (by simp)) ⟨wr.heap.size, 0, none⟩ 1 1 [num ((xs.drop (8 * c)).take 8)] rfl rfl (words_new _ _ _ _ rfl _ rfl) (by simp; omega) (by have := F1.size; simp; omega) ?_; intro v3 w3 O3 G3 U3)
        go_roundw
        case rel => exact ⟨c + 1, by go_num, by omega, O3, Fr.trans' (by repeat' (first | (with_reducible exact Fr.refl _ _) | (with_reducible assumption) | (with_reducible refine Fr.drew ?_) | (with_reducible refine Fr.drewN ?_ _) | (with_reducible refine Fr.alloc ?_ _) | ((with_reducible refine Fr.setNew ?_ _ ?_ _); rotate_left; (focus (first | (with_reducible assumption) | exact Nat.le_of_lt (by with_reducible assumption) | (focus (simp +arith; done)) | exact Nat.le_trans (by with_reducible assumption) (by simp +arith; done) | (simp; done)))) | ((with_reducible refine Fr.setOld ?_ _ ?_ _); rotate_left; (focus (simp; done))))) G3 (fun x hx => Or.inr (own_ge HO1.out x hx))⟩
        case measure => simp [intOf]; omega
  · have hm : ((xs.length : Int) % 8 != 0) = true ∨ ((xs.length : Int) % 8 != 0) = false ∧ ¬ (xs.length : Int) ≤ 64 := by
      by_cases q : xs.length % 8 = 0
      · right; simp [q]; omega
      · left; simp; omega
    have H1 := Lib.hid h1
    clear h1
    rcases hm with hm | ⟨hm, hm2⟩
    · go_enter Tryd.func38, Tryd.ntmps38
      go_wp2_with fail
      go_ret2
      exact ⟨Or.inl ⟨H1.out, rfl⟩, (by repeat' (first | (with_reducible exact Fr.refl _ _) | (with_reducible assumption) | (with_reducible refine Fr.drew ?_) | (with_reducible refine Fr.drewN ?_ _) | (with_reducible refine Fr.alloc ?_ _) | ((with_reducible refine Fr.setNew ?_ _ ?_ _); rotate_left; (focus (first | (with_reducible assumption) | exact Nat.le_of_lt (by with_reducible assumption) | (focus (simp +arith; done)) | exact Nat.le_trans (by with_reducible assumption) (by simp +arith; done) | (simp; done)))) | ((with_reducible refine Fr.setOld ?_ _ ?_ _); rotate_left; (focus (simp; done)))))⟩
    · go_enter Tryd.func38, Tryd.ntmps38
      go_wp2_with fail
      go_ret2
      exact ⟨Or.inl ⟨H1.out, rfl⟩, (by repeat' (first | (with_reducible exact Fr.refl _ _) | (with_reducible assumption) | (with_reducible refine Fr.drew ?_) | (with_reducible refine Fr.drewN ?_ _) | (with_reducible refine Fr.alloc ?_ _) | ((with_reducible refine Fr.setNew ?_ _ ?_ _); rotate_left; (focus (first | (with_reducible assumption) | exact Nat.le_of_lt (by with_reducible assumption) | (focus (simp +arith; done)) | exact Nat.le_trans (by with_reducible assumption) (by simp +arith; done) | (simp; done)))) | ((with_reducible refine Fr.setOld ?_ _ ?_ _); rotate_left; (focus (simp; done)))))⟩

end Go.Proofs.YtoebfpimojkamaaDoor
