/- The reference of layer 10: Access. -/
import Derived.Test.YtoapobhdpgcmbaaStrRef1
namespace Go.Proofs.Ytoapobhdpgcmbaa
open Go.RowKit Go.Lib

section
variable {E : Type}
/-- The last row is stored, where rows that are read were laid, too. -/
theorem ChS.storeL {α : Type} {E : El α} {w0 w w' : World} {R : List Nat} {base : Nat} {u0 : Value} {l0 : List α} {ps : List Nat} {ls : List (List α)} {L : List (Nat × List α)} {k q r : Nat} {o0 : Obj} {o1 : Value → Obj} {b : Nat → Bool} {V : Nat → Value}
    (h : ChS E w0 R base u0 l0 ps ls L k q r o0 o1 b V w) (hn : k ∉ ps ∧ k ≠ q ∧ k ≠ 1000 ∧ k ∉ L.map Prod.fst) (hrR : r ∈ R) (hr : r < base) (hb0 : base ≤ w0.heap.size) {p : Nat} (hp : ps.getLast? = some p) (hb : b p = true) {S : List Nat} (f : Fr S w w') (hS : ∀ x ∈ S, x = r) (ht : w'.heap[r]? = some (o1 (V p))) : ChS E w0 R base u0 l0 ps ls L k q r o0 o1 (updD b k) V w' := by
  obtain ⟨hk, hkq, hk1, hkL⟩ := hn
  have hp' : ∀ p, p ∈ ps → updD b k p = b p := fun p hp => dD_ne (fun e => hk (e ▸ hp))
  have hL : ∀ x ∈ L, updD b k x.1 = b x.1 := fun x hx => dD_ne (fun e => hkL (e ▸ List.mem_map_of_mem hx))
  refine ⟨h.fr.trans f (fun x hx => Or.inl (by rw [hS x hx]; exact hrR)), ?_, h.uo, fun x hx hbx => ?_, fun ha => ?_, fun _ p' hpl => ?_, fun ha p hpl => ?_, fun e => absurd e hk1, fun e => by rw [dD_ne (Ne.symm hkq)]; exact h.noq e⟩
  · obtain ⟨m, m1, m2, m3, m4, m5⟩ := h.m
    exact ⟨m, m1, fun i p hi => by rw [hp' p (List.mem_of_getElem? hi)]; exact m2 i p hi, fun p l h0 hi hl => (m3 p l h0 hi hl).fr f (fun x hx => by rw [hS x hx]; exact hr), fun p h0 hi x hx hbx => m4 p h0 hi x hx (by rw [hL x hx] at hbx; exact hbx), fun h0 => (m5 h0).fr f (fun x hx => by rw [hS x hx]; exact hr)⟩
  · rw [hL x hx] at hbx
    refine ⟨fun y hy => ⟨((h.rd x hx hbx).1 y hy).1, Nat.lt_of_lt_of_le ((h.rd x hx hbx).1 y hy).2 f.size⟩, (h.rd x hx hbx).2.apart f (fun y hy hyS => ?_)⟩
    have q1 := ((h.rd x hx hbx).1 y hy).1
    have q2 := hS y hyS
    omega
  · rw [dD_eq] at ha; cases ha
  · rw [hp] at hpl
    obtain rfl := Option.some.inj hpl
    exact ⟨by rw [hp' p (List.mem_of_getLast? hp)]; exact hb, ht⟩
  · rw [dD_ne (Ne.symm hkq)] at ha; rw [hp' p (List.mem_of_getLast? hpl)]; exact h.asg ha p hpl
end
section
variable {w w' : World} {M M' S : List Nat} {r rt base : Nat} {P : Prm} {v : Value} {s : TS}
/-- A write to the tracker, or to its row. -/
theorem RTrk.put {v' : Value} {xs' : List Str} {us' la' : Int} (h : RTrk w M r rt base P v s) (f : Fr S w w') (hS : ∀ x ∈ S, x = r ∨ x ∈ v.ownBlock.toList) (hr : w'.heap[r]? = some (.cells #[v', .pointer (some ⟨rt, 0, none⟩), .int .i64 us', .int .i64 la', .int .i64 P.most, .int .i64 P.deg, .int .i64 P.blk] 48))
    (ow : eS.Own w' base v' xs') (hv : ∀ y ∈ v'.ownBlock.toList, y ∈ v.ownBlock.toList ∨ w.heap.size ≤ y) : RTrk w' M r rt base P v' ⟨xs', us', la', s.L, s.E⟩ := by
  have hl := h.lt
  refine ⟨hr, ow, h.tp.turn f (fun x hx => ?_) (fun x hx => ?_) (fun x hx => ?_) (by simp), ⟨hl.1, hl.2.1, hl.2.2.1, Nat.le_trans hl.2.2.2 f.size⟩, fun x hx => ?_⟩
  · rcases hS x hx with rfl | q
    · exact ⟨Or.inl (by simp), hl.2.2.1⟩
    · refine ⟨Or.inl (by simp [q]), fun e => ?_⟩
      have := h.ow.ge x q; omega
  · rcases List.mem_cons.1 hx with rfl | hx
    · simp
    rcases List.mem_cons.1 hx with rfl | hx
    · simp
    rcases List.mem_append.1 hx with hx | hx
    · exact (hv x hx).imp (fun q => by simp [q]) id
    · simp [hx]
  · have q := f.size
    rcases List.mem_cons.1 hx with rfl | hx
    · have := h.nl x (by simp); omega
    rcases List.mem_cons.1 hx with rfl | hx
    · have := h.nl x (by simp); omega
    rcases List.mem_append.1 hx with hx | hx
    · exact ow.lt x hx
    · have := h.ml x hx; omega
  · obtain ⟨a, b, d⟩ := h.ap x hx
    refine ⟨a, b, fun q => (hv x q).elim d (fun z => by have := h.ml x hx; omega)⟩
/-- A look at the table. -/
theorem RTrk.look {L2 : Int} {E2 : List (Int × Int)} (h : RTrk w M r rt base P v s) (f : Fr [rt] w w') (t : RTap (rt :: r :: (v.ownBlock.toList ++ M)) w' rt P.size P.life (E2.map (ag L2))) : RTrk w' M r rt base P v ⟨s.xs, s.us, s.la, L2, E2⟩ := by
  have hl := h.lt
  exact ⟨f.heap h.hr (by simp; omega), h.ow.fr f (by simp; omega), t, ⟨hl.1, hl.2.1, hl.2.2.1, Nat.le_trans hl.2.2.2 f.size⟩, h.ap⟩
theorem RTrk.drop (h : RTrk w M r rt base P v s) (hM : ∀ x ∈ M', x ∈ M) : RTrk w M' r rt base P v s := h.turn (Fr.refl [] w) (by simp) (fun x hx => Or.inl (hM x hx)) (fun x hx => h.ml x (hM x hx))
theorem rt_look2 {size life L L2 : Int} {E E2 : List (Int × Int)} {β : Bool} (f c : Int) (hE : lookE size life f c (L, E) = (L2, E2)) (hB : lookB life f c (L, E) = β) (hL2 : L < 900) (hs1 : 1 ≤ size) (hs2 : size ≤ 32) (K : TapOk size (L, E)) (c1 : 1 ≤ c) (c2 : c ≤ 8) (c3 : 0 ≤ f) (c4 : f ≤ 1000) (H : RTap M w rt size life (E.map (ag L))) :
    Calls Try.prog 53 #[.pointer (some ⟨rt, 0, none⟩), .int .i64 f, .int .i64 c] w fun e w' => e = .returned (.tuple #[.bool β, .int .i64 0]) ∧ RTap M w' rt size life (E2.map (ag L2)) ∧ Fr [rt] w w' := by
  have := rt_lookc f c hL2 hs1 hs2 K H
  rw [hE, hB] at this
  have hC : lookC f c = 0 := by unfold lookC; rw [if_neg (by omega)]
  rw [hC] at this
  exact this
set_option maxRecDepth 100000 in
set_option maxHeartbeats 4000000 in
/-- An access that may not be. -/
theorem rs_acc_no (hP : P.Ok) (f c : Int) (h : badA P f c) (H : RTrk w M r rt base P v s) :
    Calls Try.prog 18 #[.pointer (some ⟨r, 0, none⟩), .int .i64 f, .int .i64 c] w fun e w' => e = .returned (.tuple #[.agg #[.int .i64 0, .int .i64 0, .int .i64 0], .int .i64 1]) ∧ Fr [] w w' := by
  have HX := H.hr
  obtain ⟨b1, b2⟩ := hP.bl
  unfold badA at h
  clear H hP
  apply blk_use HX; intro hg1 hc1 hz1 _ _ _ _ _
  by_cases c1 : c < 1
  · clear h
    go_enter Try.func18, Try.ntmps18
    go_wp2
    refine bodyPost_ret (v := .tuple #[.agg #[.int .i64 0, .int .i64 0, .int .i64 0], .int .i64 1]) (by simp [results, Try.results18, go_sem, *]) rfl ⟨rfl, (by repeat' (first | (with_reducible exact Fr.refl _ _) | (with_reducible assumption) | (with_reducible refine Fr.drew ?_) | (with_reducible refine Fr.drewN ?_ _) | (with_reducible refine Fr.alloc ?_ _) | ((with_reducible refine Fr.setNew ?_ _ ?_ _); rotate_left; (focus (first | (with_reducible assumption) | exact Nat.le_of_lt (by with_reducible assumption) | (focus (simp +arith; done)) | exact Nat.le_trans (by with_reducible assumption) (by simp +arith; done) | (simp; done)))) | ((with_reducible refine Fr.setOld ?_ _ ?_ _); rotate_left; (focus (simp; done)))))⟩
  · by_cases c2 : 8 < c
    · clear h
      go_enter Try.func18, Try.ntmps18
      go_wp2
      refine bodyPost_ret (v := .tuple #[.agg #[.int .i64 0, .int .i64 0, .int .i64 0], .int .i64 1]) (by simp [results, Try.results18, go_sem, *]) rfl ⟨rfl, (by repeat' (first | (with_reducible exact Fr.refl _ _) | (with_reducible assumption) | (with_reducible refine Fr.drew ?_) | (with_reducible refine Fr.drewN ?_ _) | (with_reducible refine Fr.alloc ?_ _) | ((with_reducible refine Fr.setNew ?_ _ ?_ _); rotate_left; (focus (first | (with_reducible assumption) | exact Nat.le_of_lt (by with_reducible assumption) | (focus (simp +arith; done)) | exact Nat.le_trans (by with_reducible assumption) (by simp +arith; done) | (simp; done)))) | ((with_reducible refine Fr.setOld ?_ _ ?_ _); rotate_left; (focus (simp; done)))))⟩
    · have c1' : 1 ≤ c := by omega
      have c2' : c ≤ 8 := by omega
      by_cases c3 : f < 0
      · clear h c1 c2
        go_enter Try.func18, Try.ntmps18
        go_wp2
        refine bodyPost_ret (v := .tuple #[.agg #[.int .i64 0, .int .i64 0, .int .i64 0], .int .i64 1]) (by simp [results, Try.results18, go_sem, *]) rfl ⟨rfl, (by repeat' (first | (with_reducible exact Fr.refl _ _) | (with_reducible assumption) | (with_reducible refine Fr.drew ?_) | (with_reducible refine Fr.drewN ?_ _) | (with_reducible refine Fr.alloc ?_ _) | ((with_reducible refine Fr.setNew ?_ _ ?_ _); rotate_left; (focus (first | (with_reducible assumption) | exact Nat.le_of_lt (by with_reducible assumption) | (focus (simp +arith; done)) | exact Nat.le_trans (by with_reducible assumption) (by simp +arith; done) | (simp; done)))) | ((with_reducible refine Fr.setOld ?_ _ ?_ _); rotate_left; (focus (simp; done)))))⟩
      · have c3' : 0 ≤ f := by omega
        by_cases c4 : P.blk ≤ f
        · clear h c1 c2 c3
          go_enter Try.func18, Try.ntmps18
          go_wp2
          refine bodyPost_ret (v := .tuple #[.agg #[.int .i64 0, .int .i64 0, .int .i64 0], .int .i64 1]) (by simp [results, Try.results18, go_sem, *]) rfl ⟨rfl, (by repeat' (first | (with_reducible exact Fr.refl _ _) | (with_reducible assumption) | (with_reducible refine Fr.drew ?_) | (with_reducible refine Fr.drewN ?_ _) | (with_reducible refine Fr.alloc ?_ _) | ((with_reducible refine Fr.setNew ?_ _ ?_ _); rotate_left; (focus (first | (with_reducible assumption) | exact Nat.le_of_lt (by with_reducible assumption) | (focus (simp +arith; done)) | exact Nat.le_trans (by with_reducible assumption) (by simp +arith; done) | (simp; done)))) | ((with_reducible refine Fr.setOld ?_ _ ?_ _); rotate_left; (focus (simp; done)))))⟩
        · have c4' : f < P.blk := by omega
          have c5 : P.blk < f + c := by omega
          clear h c1 c2 c3 c4
          go_enter Try.func18, Try.ntmps18
          go_wp2
          refine bodyPost_ret (v := .tuple #[.agg #[.int .i64 0, .int .i64 0, .int .i64 0], .int .i64 1]) (by simp [results, Try.results18, go_sem, *]) rfl ⟨rfl, (by repeat' (first | (with_reducible exact Fr.refl _ _) | (with_reducible assumption) | (with_reducible refine Fr.drew ?_) | (with_reducible refine Fr.drewN ?_ _) | (with_reducible refine Fr.alloc ?_ _) | ((with_reducible refine Fr.setNew ?_ _ ?_ _); rotate_left; (focus (first | (with_reducible assumption) | exact Nat.le_of_lt (by with_reducible assumption) | (focus (simp +arith; done)) | exact Nat.le_trans (by with_reducible assumption) (by simp +arith; done) | (simp; done)))) | ((with_reducible refine Fr.setOld ?_ _ ?_ _); rotate_left; (focus (simp; done)))))⟩
end
end Go.Proofs.Ytoapobhdpgcmbaa
