/- tap.List, tap.oldest. -/
import Derived.Test.YtoapobhdpgcmbaaTapSort
import Derived.Deep.MidRow
namespace Go.Proofs.Ytoapobhdpgcmbaa
open Go.RowKit Go.Sort Go.Lib

/-- What List tells of an entry. -/
def ag (L : Int) (p : Int × Int) : Int × Int := (p.1, L - p.2)

theorem RangeIs.sub {w : World} {b r : Nat} {E Lf : List (Int × Int)} (h : RangeIs w b r E Lf) : Lf.Sublist E := by
  obtain ⟨l, left, n, h1, h2, rfl⟩ := h
  exact List.filter_sublist
theorem cutk_perm {x c : Int} : ∀ {Lf : List (Int × Int)}, Lf.Pairwise (fun p q => p.1 ≠ q.1) → (x, c) ∈ Lf → Lf.Perm ((x, c) :: cutk x Lf)
  | [], _, h => by simp at h
  | p :: r, nd, h => by
    obtain ⟨h1, h2⟩ := List.pairwise_cons.1 nd
    by_cases e : p.1 = x
    · have hp : p = (x, c) := by
        rcases List.mem_cons.1 h with h | h
        · exact h.symm
        · exact absurd e (h1 _ h)
      subst hp
      have : cutk x r = r := by
        unfold cutk
        rw [List.filter_eq_self]
        intro q hq
        simpa using fun e => h1 q hq e.symm
      have e2 : cutk x ((x, c) :: r) = cutk x r := by unfold cutk; simp
      rw [e2, this]
    · have hr : (x, c) ∈ r := by
        rcases List.mem_cons.1 h with h | h
        · exact absurd (by rw [← h]) e
        · exact h
      have ih := cutk_perm h2 hr
      have : cutk x (p :: r) = p :: cutk x r := by unfold cutk; simp [e]
      rw [this]
      exact (ih.cons p).trans (List.Perm.swap _ _ _)

theorem pair_new (w : World) (p : Int × Int) (T : TypeId) (q : Nat) (hq : q = w.heap.size) : ∀ (j : Nat) (u : Value), (pc p)[j]? = some u → (w.alloc (.cells #[.int .i64 p.1, .int .i64 p.2] T)).cell? ((⟨q, 0, none⟩ : Addr).add j) = some u := by
  subst hq
  intro j u hj
  rw [Addr.add_mid, blk_cell (heap_alloc_new w _)]
  simpa [pc] using hj
theorem pair_one (p : Int × Int) : ∀ u ∈ pc p, u.oneCell' = true := by
  intro u hu
  simp [pc] at hu
  rcases hu with rfl | rfl <;> rfl
theorem grown_fr {w w' : World} {row : Option Nat} (h : w.grownBy w' row) : Fr row.toList w w' :=
  ⟨h.os, h.tape, h.output, h.size, fun k hk hS => h.block k hk (fun e => hS (by rw [← e]; simp))⟩

set_option maxHeartbeats 4000000 in
theorem tlist (t b : Nat) (size life L : Int) (E : List (Int × Int)) (hL : 0 ≤ L) (hL2 : L < 100000) (hE : ∀ p ∈ E, 0 ≤ p.2 ∧ p.2 ≤ L) (hlen : E.length ≤ 1000) (ho : E.Pairwise (fun p q => q.2 < p.2)) (w : World) (H : TapAt w t b size life L E) :
    Calls Try.prog 61 #[.pointer (some ⟨t, 0, none⟩)] w fun e w' => ∃ v, e = .returned v ∧ OwnP w' (w.heap.size + 1) v (E.map (ag L)) ∧ Fr [] w w' := by
  have nd := H.hm.nodup
  have HM := Lib.hid H.hm
  have HT := H.ht
  have hne := H.ne
  have hlt := H.lt
  apply blk_use HT; intro hg1 hc1 hz1 _ _ _ _ _
  clear H
  obtain ⟨ti, hti, htz, hts, htb⟩ := info_parts (P := Try.prog) (e := 110) (z := .agg #[.int .i64 0, .int .i64 0]) (size := 2) (bytes := 16) (by kernel_rfl)
  have HI := Lib.hid (And.intro hti (And.intro htz (And.intro hts htb)))
  clear hti htz hts htb
  go_enter Try.func61, Try.ntmps61
  go_wp2_with (at_range; refine wpList_rng _ rfl _ rfl b E rfl (HM.out.fr (S := []) (by repeat' (first | (with_reducible exact Fr.refl _ _) | (with_reducible assumption) | (with_reducible refine Fr.drew ?_) | (with_reducible refine Fr.drewN ?_ _) | (with_reducible refine Fr.alloc ?_ _) | ((with_reducible refine Fr.setNew ?_ _ ?_ _); rotate_left; (focus (first | (with_reducible assumption) | exact Nat.le_of_lt (by with_reducible assumption) | (focus (simp +arith; done)) | exact Nat.le_trans (by with_reducible assumption) (by simp +arith; done) | (simp; done)))) | ((with_reducible refine Fr.setOld ?_ _ ?_ _); rotate_left; (focus (simp; done))))) (by simp)) ?_; intro w1 hr1 hg1 hs1)
  have F1 : Fr [] w w1 := Fr.trans' (S := []) (S' := []) (by repeat' (first | (with_reducible exact Fr.refl _ _) | (with_reducible assumption) | (with_reducible refine Fr.drew ?_) | (with_reducible refine Fr.drewN ?_ _) | (with_reducible refine Fr.alloc ?_ _) | ((with_reducible refine Fr.setNew ?_ _ ?_ _); rotate_left; (focus (first | (with_reducible assumption) | exact Nat.le_of_lt (by with_reducible assumption) | (focus (simp +arith; done)) | exact Nat.le_trans (by with_reducible assumption) (by simp +arith; done) | (simp; done)))) | ((with_reducible refine Fr.setOld ?_ _ ?_ _); rotate_left; (focus (simp; done))))) (fr_grown0 hg1) (by simp)
  have T1 : w1.heap[t]? = some (.cells #[.int .i64 size, .int .i64 life, .int .i64 L, .map (some b)] 127) := F1.heap HT (by simp)
  clear hc1 hz1
  (try simp only [size_drew] at hr1 hs1 ⊢)
  generalize hR : w.heap.size = R at *
  go_frame
  go_loopw [3, 4, 5] (fun u3 _ _ wr => ∃ Lf out, RangeIs wr b R E Lf ∧ OwnP wr (R + 1) u3 out ∧ (out ++ Lf.map (ag L)).Perm (E.map (ag L)) ∧ Fr [] w wr ∧ R < wr.heap.size)
    (fun _ _ _ wr => wr.rangeLeft b R)
  case atStart => exact ⟨E, [], hr1, ⟨rfl, Or.inl ⟨rfl, rfl⟩⟩, by simp, F1, by omega⟩
  case round =>
    clear hr1 T1 F1 hg1 hs1
    obtain ⟨Lf, out, hr, hO, hp, F, hsz⟩ := hrel
    have HR := Lib.hid hr
    have hsub := hr.sub
    clear hr
    go_wp2_with (at_next; refine wpList_nxt _ rfl _ rfl b R _ Lf rfl HR.out ?_ ?_)
    · intro h0
      subst h0
      have hp2 : out.Perm (E.map (ag L)) := by simpa using hp
      have hs2 : (E.map (ag L)).Pairwise (fun p q => p.2 < q.2) := by
        rw [List.pairwise_map]
        exact ho.imp (fun h => by simp only [ag]; omega)
      have hlo : out.length ≤ 1000 := by rw [hp2.length_eq, List.length_map]; exact hlen
      have HO := Lib.hid hO
      have ge := own_ge hO
      clear hO
      go_wp2_with (go_at_call 82; (with_reducible refine (tsort (R + 1) _ out (E.map (ag L)) hp2 hs2 hlo _ (HO.out.fr (S := []) (by repeat' (first | (with_reducible exact Fr.refl _ _) | (with_reducible assumption) | (with_reducible refine Fr.drew ?_) | (with_reducible refine Fr.drewN ?_ _) | (with_reducible refine Fr.alloc ?_ _) | ((with_reducible refine Fr.setNew ?_ _ ?_ _); rotate_left; (focus (first | (with_reducible assumption) | exact Nat.le_of_lt (by with_reducible assumption) | (focus (simp +arith; done)) | exact Nat.le_trans (by with_reducible assumption) (by simp +arith; done) | (simp; done)))) | ((with_reducible refine Fr.setOld ?_ _ ?_ _); rotate_left; (focus (simp; done))))) (by simp))).mono ?_); rintro e w3 ⟨rfl, O3, F3⟩)
      have F4 : Fr [] w w3 := Fr.trans' (S := []) (S' := u3.ownBlock.toList) (by repeat' (first | (with_reducible exact Fr.refl _ _) | (with_reducible assumption) | (with_reducible refine Fr.drew ?_) | (with_reducible refine Fr.drewN ?_ _) | (with_reducible refine Fr.alloc ?_ _) | ((with_reducible refine Fr.setNew ?_ _ ?_ _); rotate_left; (focus (first | (with_reducible assumption) | exact Nat.le_of_lt (by with_reducible assumption) | (focus (simp +arith; done)) | exact Nat.le_trans (by with_reducible assumption) (by simp +arith; done) | (simp; done)))) | ((with_reducible refine Fr.setOld ?_ _ ?_ _); rotate_left; (focus (simp; done))))) F3 (fun x hx => Or.inr (by have := ge x hx; omega))
      go_ret
      exact ⟨_, rfl, by rw [hR]; exact O3, F4⟩
    · intro x c w2 hx hc hin hr2 hlt2 hg2 hs2 hen
      have hcE := hE _ (hsub.subset hin)
      have F2 : Fr [] w w2 := F.trans' (fr_grown hg2) (by simp; omega)
      have T2 := F2.heap HT (by simp)
      have hw2 : wrap64 (L - c) = L - c := by unfold wrap64; simp at hcE; omega
      have HR2 := Lib.hid hr2
      have O2 := hO.fr (fr_grown hg2) (by simp)
      have hlo : out.length ≤ 1000 := by have := hp.length_eq; simp at this; omega
      apply blk_use T2; intro hg2 hc2 hz2 _ _ _ _ _
      go_wp2_with (first
        | (at_builtin; refine wpList_append_own_at _ rfl (.tmp 16) (.tmp 25) 50 rfl (R + 1) 110 ti (.agg #[.int .i64 0, .int .i64 0]) 2 16 Try.underlying50 HI.out.1 HI.out.2.1 HI.out.2.2.1 HI.out.2.2.2 rfl (by decide) _ _ _ rfl (ownsRow_fr (S := []) O2 (by repeat' (first | (with_reducible exact Fr.refl _ _) | (with_reducible assumption) | (with_reducible refine Fr.drew ?_) | (with_reducible refine Fr.drewN ?_ _) | (with_reducible refine Fr.alloc ?_ _) | ((with_reducible refine Fr.setNew ?_ _ ?_ _); rotate_left; (focus (first | (with_reducible assumption) | exact Nat.le_of_lt (by with_reducible assumption) | (focus (simp +arith; done)) | exact Nat.le_trans (by with_reducible assumption) (by simp +arith; done) | (simp; done)))) | ((with_reducible refine Fr.setOld ?_ _ ?_ _); rotate_left; (focus (simp; done))))) (by simp)) ⟨wr.heap.size, 0, none⟩ 1 1 (pc (x, L - c)) rfl rfl (pair_new _ (x, L - c) _ _ hs2.symm) (pair_one _) (by unfold maxLen; omega) (by omega) (by simp; omega) ?_; intro v' w6 hown hgrow hnil hat))
      have ge := own_ge O2
      have Fx : Fr u3.ownBlock.toList w2 w6 := Fr.trans' (S := u3.ownBlock.toList) (S' := u3.ownBlock.toList) (by repeat' (first | (with_reducible exact Fr.refl _ _) | (with_reducible assumption) | (with_reducible refine Fr.drew ?_) | (with_reducible refine Fr.drewN ?_ _) | (with_reducible refine Fr.alloc ?_ _) | ((with_reducible refine Fr.setNew ?_ _ ?_ _); rotate_left; (focus (first | (with_reducible assumption) | exact Nat.le_of_lt (by with_reducible assumption) | (focus (simp +arith; done)) | exact Nat.le_trans (by with_reducible assumption) (by simp +arith; done) | (simp; done)))) | ((with_reducible refine Fr.setOld ?_ _ ?_ _); rotate_left; (focus (simp; done))))) (grown_fr hgrow) (fun x hx => Or.inl hx)
      have R6 := HR2.out.fr Fx (fun hx => by have := ge _ hx; omega) (fun hx => by have := ge _ hx; omega)
      have O6 : OwnP w6 (R + 1) v' (out ++ [(x, L - c)]) := by
        unfold OwnP
        rw [pcells_app, List.length_append]
        exact hown
      have F6 : Fr [] w w6 := F2.trans' Fx (fun x hx => Or.inr (by have := ge x hx; omega))
      have P6 : ((out ++ [(x, L - c)]) ++ (cutk x Lf).map (ag L)).Perm (E.map (ag L)) := by
        refine List.Perm.trans ?_ hp
        rw [List.append_assoc]
        refine List.Perm.append_left out ?_
        have := ((cutk_perm (nd.sublist hsub) hin).map (ag L)).symm
        simpa [ag] using this
      have S6 : R < w6.heap.size := by have := Fx.size; omega
      clear hown hnil hat
      go_roundw
      case rel => exact ⟨_, _, R6.1, O6, P6, F6, S6⟩
      case measure => rw [R6.2]; exact hlt2

theorem OwnP.at {w : World} {base : Nat} {v : Value} {xs : List (Int × Int)} (h : OwnP w base v xs) (hx : xs ≠ []) :
    ∃ g cap, v = .slice (some ⟨g, 0, none⟩) xs.length cap ∧ base ≤ g ∧ g < w.heap.size ∧ ∀ i p, xs[i]? = some p → w.cell? ⟨g, i * 2, none⟩ = some (.int .i64 p.1) ∧ w.cell? ⟨g, i * 2 + 1, none⟩ = some (.int .i64 p.2) := by
  obtain ⟨h1, ⟨rfl, hn⟩ | ⟨g, cap, cur, rfl, hg, hb, hc, hm, hz, ht⟩⟩ := h
  · exact absurd (List.length_eq_zero_iff.1 hn) hx
  · refine ⟨g, cap, rfl, hg, lt_of_heap hb, fun i p hi => ?_⟩
    have hil : i < xs.length := (List.getElem?_eq_some_iff.1 hi).1
    have key : ∀ j, j < 2 → w.cell? ⟨g, i * 2 + j, none⟩ = (pc p)[j]? := by
      intro j hj
      rw [blk_cell hb, ← pcells_get xs i j p hi hj, ← ht, List.getElem?_take, if_pos (by omega)]
      simp
    exact ⟨key 0 (by omega), key 1 (by omega)⟩

set_option maxHeartbeats 1000000 in
theorem toldest (t b : Nat) (size life L : Int) (E : List (Int × Int)) (q : Int × Int) (hL : 0 ≤ L) (hL2 : L < 100000) (hE : ∀ p ∈ E ++ [q], 0 ≤ p.2 ∧ p.2 ≤ L) (hlen : E.length ≤ 900) (ho : (E ++ [q]).Pairwise (fun p q => q.2 < p.2)) (w : World) (H : TapAt w t b size life L (E ++ [q])) :
    Calls Try.prog 71 #[.pointer (some ⟨t, 0, none⟩)] w fun e w' => e = .returned (.int .i64 q.1) ∧ Fr [] w w' := by
  have HH := Lib.hid H
  clear H
  go_enter Try.func71, Try.ntmps71
  go_wp2_with (go_at_call 61; (with_reducible refine (tlist t b size life L (E ++ [q]) hL hL2 hE (by simp; omega) ho _ HH.out).mono ?_); rintro e w1 ⟨v, rfl, O1, F1⟩; obtain ⟨g, cap, rfl, _, hgl, hat⟩ := OwnP.at O1 (by simp); have hlast := (hat E.length (ag L q) (by simp)).1; have hlen' : (((E ++ [q]).map (ag L)).length : Int) - 1 = E.length := (by simp); simp only [ag] at hlast; generalize ((E ++ [q]).map (ag L)).length = m at *; obtain rfl : m = E.length + 1 := (by omega); clear hat O1 hlen')
  go_ret
  exact ⟨rfl, F1⟩

end Go.Proofs.Ytoapobhdpgcmbaa
