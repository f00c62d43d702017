/- Plain laws on records: what is written is read as it was, and what is read was written so. -/
import Derived.Test.YtoebfpimojkamaaDoorWireEq
namespace Go.Proofs.YtoebfpimojkamaaDoor
open Go.RowKit

theorem num_le : ∀ (k : Nat) (n : Int), 0 ≤ n → n < p256 k → num (le n k) = n
  | 0, n, h0, h1 => by simp [p256] at h1; simp [le, num]; omega
  | k + 1, n, h0, h1 => by
    simp only [le, num]
    rw [num_le k (n / 256) (by omega) (by simp only [p256] at h1; omega)]
    omega
theorem le_num : ∀ (l : List Int), byteOk l → le (num l) l.length = l
  | [], _ => rfl
  | b :: r, h => by
    have hb := h b (by simp)
    have ih := le_num r (fun v hv => h v (by simp [hv]))
    simp only [num, List.length_cons, le]
    rw [show (b + 256 * num r) % 256 = b by omega, show (b + 256 * num r) / 256 = num r by omega, ih]
theorem les_drop : ∀ (c : Nat) (vs : List Int), (les vs).drop (8 * c) = les (vs.drop c)
  | 0, vs => by simp
  | c + 1, [] => by simp [les]
  | c + 1, v :: r => by
    simp only [les, List.drop_succ_cons]
    rw [show 8 * (c + 1) = 8 + 8 * c by omega, ← List.drop_drop, List.drop_left' (le_len 8 v)]
    exact les_drop c r
def valOk (vs : List Int) : Prop := ∀ v ∈ vs, 0 ≤ v ∧ v ≤ 18446744073709551615
theorem wordsN_les (vs : List Int) (h : valOk vs) : ∀ c, c ≤ vs.length → wordsN (les vs) c = vs.take c
  | 0, _ => by simp [wordsN]
  | c + 1, hc => by
    have hv := h vs[c] (List.getElem_mem (by omega))
    have e : ((les vs).drop (8 * c)).take 8 = le vs[c] 8 := by
      rw [les_drop, List.drop_eq_getElem_cons (by omega)]
      simp only [les]
      rw [List.take_left' (le_len 8 _)]
    rw [wordsN, wordsN_les vs h c (by omega), e, num_le 8 _ hv.1 (by have : p256 8 = 18446744073709551616 := rfl; omega), List.take_succ_eq_append_getElem (by omega)]
theorem les_wordsN (xs : List Int) (h : byteOk xs) : ∀ c, 8 * c ≤ xs.length → les (wordsN xs c) = xs.take (8 * c)
  | 0, _ => by simp [wordsN, les]
  | c + 1, hc => by
    have hb : byteOk ((xs.drop (8 * c)).take 8) := fun v hv => h v (List.mem_of_mem_drop (List.mem_of_mem_take hv))
    have e := le_num _ hb
    rw [show ((xs.drop (8 * c)).take 8).length = 8 by simp; omega] at e
    rw [wordsN, les_app, les_wordsN xs h c (by omega)]
    simp only [les, List.append_nil]
    rw [e, show 8 * (c + 1) = 8 * c + 8 by omega, List.take_add]

theorem recOf_app {ys t : List Int} (h : ys.length ≤ 255) : recOf (recB ys ++ t) = some (ys, t) := by
  rw [recB_small h]
  simp [recOf]
theorem num_one (x : Int) : num [x] = x := by simp [num]
theorem num_two {n : Int} (h0 : 0 ≤ n) (h1 : n ≤ 65535) : num (le n 2) = n := num_le 2 n h0 (by have : p256 2 = 65536 := rfl; omega)
theorem num_by {n : Int} (h0 : 0 ≤ n) (h1 : n ≤ 255) : num (le n 1) = n := num_le 1 n h0 (by have : p256 1 = 256 := rfl; omega)
theorem take2 (n : Int) (t : List Int) : (le n 2 ++ t).take 2 = le n 2 := List.take_left' (le_len 2 n)
theorem drop2 (n : Int) (t : List Int) : (le n 2 ++ t).drop 2 = t := List.drop_left' (le_len 2 n)
theorem tail_len {o : OpD} {ys : List Int} (h : putO o = some ys) : canP o.k o.id o.f o.c o.vs.length o.wl ∧ ys = recB (putTail o.k o.id o.f o.c o.vs o.wl) ∧ (putTail o.k o.id o.f o.c o.vs o.wl).length ≤ 69 := by
  have hl := (putO_bytes h).2
  unfold putO putS at h
  split at h
  case isFalse => cases h
  case isTrue hc =>
    cases h
    exact ⟨hc, rfl, by simp [recB] at hl; omega⟩

theorem readR_put (o : OpD) (hc : canP o.k o.id o.f o.c o.vs.length o.wl) (hv : valOk o.vs) : readR (putTail o.k o.id o.f o.c o.vs o.wl) = some o := by
  obtain ⟨k, id, f, c, vs, wl⟩ := o
  obtain ⟨⟨k1, k5⟩, ⟨i0, i1⟩, ⟨f0, f1⟩, ⟨c0, c1⟩, v8, n1, n2, n3, n4, n5⟩ := hc
  simp only at *
  rcases (by omega : k = 1 ∨ k = 2 ∨ k = 3 ∨ k = 4 ∨ k = 5) with rfl | rfl | rfl | rfl | rfl
  · obtain rfl : wl = false := n5.resolve_left (by decide)
    obtain rfl : vs = [] := List.length_eq_zero_iff.1 (n4.resolve_left (by decide))
    have e1 : ((1 : Int) :: (le id 2 ++ (le f 2 ++ le c 1))).length = 6 := by simp [le_len]
    have e2 : ((1 : Int) :: (le id 2 ++ (le f 2 ++ le c 1))).drop 1 = le id 2 ++ (le f 2 ++ le c 1) := rfl
    have e3 : ((1 : Int) :: (le id 2 ++ (le f 2 ++ le c 1))).drop 3 = le f 2 ++ le c 1 := by
      show (le id 2 ++ (le f 2 ++ le c 1)).drop 2 = _
      exact drop2 _ _
    have e5 : ((1 : Int) :: (le id 2 ++ (le f 2 ++ le c 1))).drop 5 = le c 1 := by
      show (le id 2 ++ (le f 2 ++ le c 1)).drop (2 + 2) = _
      rw [← List.drop_drop, drop2, drop2]
    have q1 : num (List.take 1 ((1 : Int) :: (le id 2 ++ (le f 2 ++ le c 1)))) = 1 := by simp [num]
    show readR ((1 : Int) :: (le id 2 ++ le f 2 ++ le c 1)) = _
    rw [List.append_assoc]
    unfold readR
    rw [if_neg (by simp), e1, e2, e3, e5, take2, take2, num_two i0 i1, num_two f0 f1, q1, List.take_of_length_le (Nat.le_of_eq (le_len 1 c)), num_by c0 c1]
    simp
  · obtain rfl : wl = false := n5.resolve_left (by decide)
    obtain rfl : c = 0 := by omega
    have hl8 := les_len vs
    have e0 : ((2 : Int) :: (le id 2 ++ (le f 2 ++ les vs))).length = 5 + 8 * vs.length := by simp [le_len, hl8]; omega
    have e2 : ((2 : Int) :: (le id 2 ++ (le f 2 ++ les vs))).drop 1 = le id 2 ++ (le f 2 ++ les vs) := rfl
    have e3 : ((2 : Int) :: (le id 2 ++ (le f 2 ++ les vs))).drop 3 = le f 2 ++ les vs := by
      show (le id 2 ++ (le f 2 ++ les vs)).drop 2 = _
      exact drop2 _ _
    have e5 : ((2 : Int) :: (le id 2 ++ (le f 2 ++ les vs))).drop 5 = les vs := by
      show (le id 2 ++ (le f 2 ++ les vs)).drop (2 + 2) = _
      rw [← List.drop_drop, drop2, drop2]
    have e6 : 5 ≤ 5 + 8 * vs.length ∧ (5 + 8 * vs.length - 5) % 8 = 0 ∧ 5 + 8 * vs.length ≤ 69 := by omega
    have e7 : (5 + 8 * vs.length - 5) / 8 = vs.length := by omega
    show readR ((2 : Int) :: (le id 2 ++ le f 2 ++ les vs)) = _
    rw [List.append_assoc]
    unfold readR
    rw [if_neg (by simp), e0, e2, e3, e5, take2, take2, num_two i0 i1, num_two f0 f1, e7, wordsN_les vs hv _ (Nat.le_refl _), List.take_length]
    have q1 : num (List.take 1 ((2 : Int) :: (le id 2 ++ (le f 2 ++ les vs)))) = 2 := by simp [num]
    rw [q1, if_neg (by decide), if_pos rfl, if_pos e6]
  · obtain rfl : wl = false := n5.resolve_left (by decide)
    obtain rfl : vs = [] := List.length_eq_zero_iff.1 (n4.resolve_left (by decide))
    obtain rfl : id = 0 := by omega
    have e1 : ((3 : Int) :: (le f 2 ++ le c 1)).length = 4 := by simp [le_len]
    have e3 : ((3 : Int) :: (le f 2 ++ le c 1)).drop 3 = le c 1 := by
      show (le f 2 ++ le c 1).drop 2 = _
      exact drop2 _ _
    have e2 : ((3 : Int) :: (le f 2 ++ le c 1)).drop 1 = le f 2 ++ le c 1 := rfl
    have q1 : num (List.take 1 ((3 : Int) :: (le f 2 ++ le c 1))) = 3 := by simp [num]
    show readR ((3 : Int) :: (le f 2 ++ le c 1)) = _
    unfold readR
    rw [if_neg (by simp), e1, e2, e3, take2, num_two f0 f1, q1, List.take_of_length_le (Nat.le_of_eq (le_len 1 c)), num_by c0 c1]
    simp
  · obtain rfl : wl = false := n5.resolve_left (by decide)
    obtain rfl : vs = [] := List.length_eq_zero_iff.1 (n4.resolve_left (by decide))
    obtain rfl : f = 0 := by omega
    obtain rfl : c = 0 := by omega
    have e1 : ((4 : Int) :: le id 2).length = 3 := by simp [le_len]
    have e2 : ((4 : Int) :: le id 2).drop 1 = le id 2 := rfl
    have q1 : num (List.take 1 ((4 : Int) :: le id 2)) = 4 := by simp [num]
    show readR ((4 : Int) :: le id 2) = _
    unfold readR
    rw [if_neg (by simp), e1, e2, q1, List.take_of_length_le (Nat.le_of_eq (le_len 2 id)), num_two i0 i1]
    simp
  · obtain rfl : vs = [] := List.length_eq_zero_iff.1 (n4.resolve_left (by decide))
    obtain rfl : f = 0 := by omega
    obtain rfl : c = 0 := by omega
    have e1 : ((5 : Int) :: (le id 2 ++ [if wl then 1 else 0])).length = 4 := by simp [le_len]
    have e2 : ((5 : Int) :: (le id 2 ++ [if wl then 1 else 0])).drop 1 = le id 2 ++ [if wl then 1 else 0] := rfl
    have e3 : ((5 : Int) :: (le id 2 ++ [if wl then 1 else 0])).drop 3 = [if wl then 1 else 0] := by
      show (le id 2 ++ [if wl then 1 else 0]).drop 2 = _
      exact drop2 _ _
    have q1 : num (List.take 1 ((5 : Int) :: (le id 2 ++ [if wl then 1 else 0]))) = 5 := by simp [num]
    show readR ((5 : Int) :: (le id 2 ++ [if wl then 1 else 0])) = _
    unfold readR
    rw [if_neg (by simp), e1, e2, e3, take2, num_two i0 i1, q1]
    cases wl <;> simp [num]
/-- What is written is read as it was. -/
theorem readS_put {o : OpD} {ys : List Int} (h : putO o = some ys) (hv : valOk o.vs) (t : List Int) : readS (ys ++ t) = some (o, t) := by
  obtain ⟨hc, rfl, hl⟩ := tail_len h
  unfold readS
  rw [recOf_app (by omega)]
  simp only [Option.bind_some, readR_put o hc hv, Option.map_some]

theorem le_two {a b : Int} (ha : 0 ≤ a ∧ a ≤ 255) (hb : 0 ≤ b ∧ b ≤ 255) : le (num [a, b]) 2 = [a, b] := le_num [a, b] (fun v hv => by simp at hv; rcases hv with rfl | rfl <;> assumption)
theorem le_one {a : Int} (ha : 0 ≤ a ∧ a ≤ 255) : le (num [a]) 1 = [a] := le_num [a] (fun v hv => by simp at hv; subst hv; assumption)
theorem num_two_lt {a b : Int} (ha : 0 ≤ a ∧ a ≤ 255) (hb : 0 ≤ b ∧ b ≤ 255) : 0 ≤ num [a, b] ∧ num [a, b] ≤ 65535 := by simp [num]; omega
theorem readR_inv {r : List Int} {o : OpD} (hb : byteOk r) (h : readR r = some o) : canP o.k o.id o.f o.c o.vs.length o.wl ∧ r = putTail o.k o.id o.f o.c o.vs o.wl ∧ valOk o.vs := by
  unfold readR at h
  split at h
  case isTrue => cases h
  case isFalse hr =>
  rcases r with _ | ⟨k, r⟩
  · exact absurd rfl hr
  have hk : num (List.take 1 (k :: r)) = k := by simp [num]
  have hbr : byteOk r := fun v hv => hb v (by simp [hv])
  rw [hk] at h
  clear hk hr
  split at h
  · rename_i hk1
    subst hk1
    split at h
    case isFalse => cases h
    case isTrue hl =>
      rcases r with _ | ⟨a, _ | ⟨b, _ | ⟨c, _ | ⟨d, _ | ⟨e, _ | ⟨f, r⟩⟩⟩⟩⟩⟩ <;> simp at hl
      have ha := hbr a (by simp)
      have hb := hbr b (by simp)
      have hc := hbr c (by simp)
      have hd := hbr d (by simp)
      have he := hbr e (by simp)
      simp only [List.drop_succ_cons, List.drop_zero, List.take_succ_cons, List.take_zero, Option.some.injEq] at h
      subst h
      have q1 := num_two_lt ha hb
      have q2 := num_two_lt hc hd
      refine ⟨⟨by simp, q1, q2, by simp [num]; exact he, by simp, by simp, by simp, by simp, Or.inr rfl, Or.inr rfl⟩, ?_, by intro v hv; simp at hv⟩
      simp only [putTail, if_true]
      rw [le_two ha hb, le_two hc hd, le_one he]
      rfl
  · split at h
    · rename_i hk1 hk2
      subst hk2
      split at h
      case isFalse => cases h
      case isTrue hl =>
        rcases r with _ | ⟨a, _ | ⟨b, _ | ⟨c, _ | ⟨d, r⟩⟩⟩⟩ <;> (try (simp at hl; done))
        have ha := hbr a (by simp)
        have hb := hbr b (by simp)
        have hc := hbr c (by simp)
        have hd := hbr d (by simp)
        have hbt : byteOk r := fun v hv => hbr v (by simp [hv])
        simp only [List.length_cons] at hl
        have e1 : (r.length + 1 + 1 + 1 + 1 + 1 - 5) / 8 = r.length / 8 := by omega
        simp only [List.drop_succ_cons, List.drop_zero, List.take_succ_cons, List.take_zero, Option.some.injEq, List.length_cons, e1] at h
        subst h
        have q1 := num_two_lt ha hb
        have q2 := num_two_lt hc hd
        have q3 := wordsN_len r (r.length / 8)
        have q4 := les_wordsN r hbt (r.length / 8) (by omega)
        refine ⟨⟨by simp, q1, q2, by simp, by simp only [q3]; omega, by simp, by simp, by simp, Or.inl rfl, Or.inr rfl⟩, ?_, wordsN_mem r hbt _⟩
        simp only [putTail, show ¬ (2 : Int) = 1 by decide, if_false, if_true]
        rw [le_two ha hb, le_two hc hd, q4, List.take_of_length_le (by omega)]
        rfl
    · split at h
      · rename_i hk1 hk2 hk3
        subst hk3
        split at h
        case isFalse => cases h
        case isTrue hl =>
          rcases r with _ | ⟨a, _ | ⟨b, _ | ⟨c, _ | ⟨d, r⟩⟩⟩⟩ <;> simp at hl
          have ha := hbr a (by simp)
          have hb := hbr b (by simp)
          have hc := hbr c (by simp)
          simp only [List.drop_succ_cons, List.drop_zero, List.take_succ_cons, List.take_zero, Option.some.injEq] at h
          subst h
          have q1 := num_two_lt ha hb
          refine ⟨⟨by simp, by simp, q1, by simp [num]; exact hc, by simp, by simp, by simp, by simp, Or.inr rfl, Or.inr rfl⟩, ?_, by intro v hv; simp at hv⟩
          simp only [putTail, show ¬ (3 : Int) = 1 by decide, show ¬ (3 : Int) = 2 by decide, if_false, if_true]
          rw [le_two ha hb, le_one hc]
          rfl
      · split at h
        · rename_i hk1 hk2 hk3 hk4
          subst hk4
          split at h
          case isFalse => cases h
          case isTrue hl =>
            rcases r with _ | ⟨a, _ | ⟨b, _ | ⟨c, r⟩⟩⟩ <;> simp at hl
            have ha := hbr a (by simp)
            have hb := hbr b (by simp)
            simp only [List.drop_succ_cons, List.drop_zero, List.take_succ_cons, List.take_zero, Option.some.injEq] at h
            subst h
            have q1 := num_two_lt ha hb
            refine ⟨⟨by simp, q1, by simp, by simp, by simp, by simp, by simp, by simp, Or.inr rfl, Or.inr rfl⟩, ?_, by intro v hv; simp at hv⟩
            simp only [putTail, show ¬ (4 : Int) = 1 by decide, show ¬ (4 : Int) = 2 by decide, show ¬ (4 : Int) = 3 by decide, if_false, if_true]
            rw [le_two ha hb]
        · split at h
          case isFalse => cases h
          case isTrue hk5 =>
            subst hk5
            split at h
            case isFalse => cases h
            case isTrue hl =>
              rcases r with _ | ⟨a, _ | ⟨b, _ | ⟨c, _ | ⟨d, r⟩⟩⟩⟩ <;> (try (simp at hl; done))
              have ha := hbr a (by simp)
              have hb := hbr b (by simp)
              have hc := hbr c (by simp)
              simp only [List.drop_succ_cons, List.drop_zero, List.take_succ_cons, List.take_zero, Option.some.injEq, num_one] at h hl
              subst h
              have q1 := num_two_lt ha hb
              refine ⟨⟨by simp, q1, by simp, by simp, by simp, by simp, by simp, by simp, Or.inr rfl, Or.inl rfl⟩, ?_, by intro v hv; simp at hv⟩
              simp only [putTail, show ¬ (5 : Int) = 1 by decide, show ¬ (5 : Int) = 2 by decide, show ¬ (5 : Int) = 3 by decide, show ¬ (5 : Int) = 4 by decide, if_false]
              rw [le_two ha hb]
              rcases (by omega : c = 0 ∨ c = 1) with rfl | rfl <;> rfl
/-- What is read was written so. -/
theorem readS_inv {xs rest : List Int} {o : OpD} (hb : byteOk xs) (h : readS xs = some (o, rest)) : ∃ ys, putO o = some ys ∧ xs = ys ++ rest ∧ valOk o.vs := by
  unfold readS at h
  cases xs with
  | nil => cases h
  | cons a t =>
    cases hr : recOf (a :: t) with
    | none => rw [hr] at h; cases h
    | some p =>
      rw [hr] at h
      simp only [Option.bind_some, Option.map_eq_some_iff] at h
      obtain ⟨q, hq, h2⟩ := h
      cases h2
      simp only [recOf] at hr
      split at hr
      case isFalse => cases hr
      case isTrue hl =>
        cases hr
        have ha := hb a (by simp)
        have hbt : byteOk (t.take a.toNat) := fun v hv => hb v (List.mem_cons_of_mem _ (List.mem_of_mem_take hv))
        obtain ⟨h1, h2, h3⟩ := readR_inv hbt hq
        refine ⟨recB (t.take a.toNat), by unfold putO putS; rw [if_pos h1, ← h2], ?_, h3⟩
        have e : (t.take a.toNat).length = a.toNat := by simp; omega
        rw [recB_small (by omega), e, List.cons_append, List.take_append_drop, show ((a.toNat : Nat) : Int) = a by omega]
theorem Scr.ext {xs zs : List Int} {l : List OpD} (h : Scr xs l zs) : ∀ t, byteOk xs → Scr (xs ++ t) l (zs ++ t) := by
  induction h with
  | nil xs => exact fun t _ => .nil _
  | cons h1 _ ih =>
    intro t hb
    obtain ⟨ys, e1, e2, e3⟩ := readS_inv hb h1
    rw [e2, List.append_assoc]
    exact .cons (readS_put e1 e3 _) (ih t (readS_ok hb h1))
theorem Scr.pre {xs ys : List Int} {l : List OpD} (h : Scr xs l ys) : readS ys = none → ∀ {m zs}, Scr xs m zs → m.length ≤ l.length ∧ m = l.take m.length := by
  induction h with
  | nil xs =>
    intro hn m zs hm
    cases hm with
    | nil => simp
    | cons h1 _ => rw [hn] at h1; cases h1
  | cons h1 _ ih =>
    intro hn m zs hm
    cases hm with
    | nil => simp
    | cons h2 h3 =>
      rw [h1] at h2
      cases h2
      obtain ⟨q1, q2⟩ := ih hn h3
      exact ⟨by simpa using q1, by simp only [List.length_cons, List.take_succ_cons]; rw [← q2]⟩
theorem Scr.recs {xs ys : List Int} {l : List OpD} (h : Scr xs l ys) : byteOk xs → (∀ o ∈ l, ∃ r, putO o = some r) ∧ xs = Go.Proofs.YtoebfpimojkamaaDoor.recs l ++ ys := by
  induction h with
  | nil xs => exact fun _ => ⟨by simp, rfl⟩
  | cons h1 _ ih =>
    intro hb
    obtain ⟨r, e1, e2, e3⟩ := readS_inv hb h1
    obtain ⟨q1, q2⟩ := ih (readS_ok hb h1)
    refine ⟨fun o ho => ?_, ?_⟩
    · rcases List.mem_cons.1 ho with rfl | ho
      · exact ⟨r, e1⟩
      · exact q1 o ho
    · rw [e2, q2]
      simp [Go.Proofs.YtoebfpimojkamaaDoor.recs, e1]
/-- A record that is cut short is none. -/
theorem readS_cut {o : OpD} {ys : List Int} (h : putO o = some ys) (k : Nat) (hk : k < ys.length) : readS (ys.take k) = none := by
  obtain ⟨hc, rfl, hl⟩ := tail_len h
  rw [recB_small (by omega)] at hk ⊢
  generalize putTail o.k o.id o.f o.c o.vs o.wl = r at *
  simp only [List.length_cons] at hk
  cases k with
  | zero => rfl
  | succ k =>
    simp only [List.take_succ_cons, readS, recOf]
    rw [if_neg]
    · rfl
    · simp; omega
/-- .. and one that says a byte more, where there is one. -/
theorem readS_more {o : OpD} {r : List Int} (h : putO o = some ((r.length : Int) :: r)) (m : Int) : readS (((r.length : Int) + 1) :: (r ++ [m])) = none := by
  obtain ⟨hc, he, hl⟩ := tail_len h
  rw [recB_small (by omega)] at he
  have e : r = putTail o.k o.id o.f o.c o.vs o.wl := (List.cons.inj he).2
  have hk : readR (r ++ [m]) = none := by
    obtain ⟨⟨k1, k5⟩, _, _, _, v8, _, _, _, _, _⟩ := hc
    have l8 := les_len o.vs
    rw [e]
    rcases (by omega : o.k = 1 ∨ o.k = 2 ∨ o.k = 3 ∨ o.k = 4 ∨ o.k = 5) with q | q | q | q | q <;> rw [q]
    · have hn : ((1 : Int) :: (le o.id 2 ++ le o.f 2 ++ le o.c 1) ++ [m]).length = 7 := by simp [le_len]
      show readR ((1 : Int) :: (le o.id 2 ++ le o.f 2 ++ le o.c 1) ++ [m]) = none
      simp [readR, hn, num]
      simp [le_len]
    · show readR ((2 : Int) :: (le o.id 2 ++ le o.f 2 ++ les o.vs) ++ [m]) = none
      simp [readR, num, le_len, l8]
      omega
    · show readR ((3 : Int) :: (le o.f 2 ++ le o.c 1) ++ [m]) = none
      simp [readR, num, le_len]
    · show readR ((4 : Int) :: le o.id 2 ++ [m]) = none
      simp [readR, num, le_len]
    · show readR ((5 : Int) :: (le o.id 2 ++ [if o.wl then 1 else 0]) ++ [m]) = none
      simp [readR, num, le_len]
  have hrec : recOf (((r.length : Int) + 1) :: (r ++ [m])) = some (r ++ [m], []) := by
    have : ((r.length : Int) + 1).toNat = r.length + 1 := by omega
    simp [recOf, this]
    exact List.take_of_length_le (by simp)
  unfold readS
  rw [hrec]
  simp [hk]
theorem ansRd_put {id c : Int} {vs ys : List Int} (h : ansS id c vs = some ys) (hv : valOk vs) (t : List Int) : ansRd (ys ++ t) = some (⟨id, c, vs⟩, t) := by
  unfold ansS at h
  split at h
  case isFalse => cases h
  case isTrue hc =>
    cases h
    obtain ⟨⟨i0, i1⟩, ⟨c0, c1⟩, v8⟩ := hc
    have hl8 := les_len vs
    have hl : (ansTail id c vs).length = 4 + 8 * vs.length := by simp [ansTail, le_len, hl8]; omega
    unfold ansRd
    rw [recOf_app (by omega)]
    simp only [Option.bind_some, Option.map_eq_some_iff]
    refine ⟨⟨id, c, vs⟩, ?_, rfl⟩
    have e0 : ansTail id c vs = 16 :: (le id 2 ++ (le c 1 ++ les vs)) := by simp [ansTail]
    have e2 : ((16 : Int) :: (le id 2 ++ (le c 1 ++ les vs))).drop 1 = le id 2 ++ (le c 1 ++ les vs) := rfl
    have e3 : ((16 : Int) :: (le id 2 ++ (le c 1 ++ les vs))).drop 3 = le c 1 ++ les vs := by
      show (le id 2 ++ (le c 1 ++ les vs)).drop 2 = _
      exact drop2 _ _
    have e4 : ((16 : Int) :: (le id 2 ++ (le c 1 ++ les vs))).drop 4 = les vs := by
      show (le id 2 ++ (le c 1 ++ les vs)).drop (2 + 1) = _
      rw [← List.drop_drop, drop2, List.drop_left' (le_len 1 c)]
    have q1 : num (List.take 1 ((16 : Int) :: (le id 2 ++ (le c 1 ++ les vs)))) = 16 := by simp [num]
    unfold ansR
    rw [hl, e0, e2, e3, e4, q1, take2, num_two i0 i1, List.take_left' (le_len 1 c), num_by c0 c1, show (4 + 8 * vs.length - 4) / 8 = vs.length by omega, wordsN_les vs hv _ (Nat.le_refl _), List.take_length, if_pos (by omega)]

end Go.Proofs.YtoebfpimojkamaaDoor
