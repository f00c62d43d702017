/- The reader of package wire: values. -/
import Derived.Test.YtoebfpimojkamaaDoorWireRd
namespace Go.Proofs.YtoebfpimojkamaaDoor
open Go.RowKit

/-- Values as cells. -/
def wcs (xs : List Int) : List Value := xs.map (Value.int .u64)
theorem wcs_len (xs : List Int) : (wcs xs).length = xs.length := by simp [wcs]
theorem wcs_app (xs ys : List Int) : wcs (xs ++ ys) = wcs xs ++ wcs ys := by simp [wcs]
theorem wcs_one (xs : List Int) : ∀ u ∈ wcs xs, u.oneCell' = true := by
  intro u hu
  simp [wcs] at hu
  obtain ⟨a, _, rfl⟩ := hu
  rfl
/-- A slice of values of the call's own. -/
def OwnW (w : World) (base : Nat) (v : Value) (xs : List Int) : Prop := w.ownsRow base 53 1 v xs.length (wcs xs)
theorem OwnW.fr {S : List Nat} {w w' : World} {base : Nat} {v : Value} {xs : List Int} (h : OwnW w base v xs) (f : Fr S w w') (hS : ∀ x ∈ S, x < base) : OwnW w' base v xs := ownsRow_fr h f hS
theorem OwnW.nil (w : World) (base : Nat) : OwnW w base (.slice none 0 0) [] := ⟨rfl, Or.inl ⟨rfl, rfl⟩⟩
theorem words_new (w : World) (xs : List Int) (T : TypeId) (q : Nat) (hq : q = w.heap.size) (cs : Array Value) (hc : cs.toList = wcs xs) : ∀ (j : Nat) (u : Value), (wcs xs)[j]? = some u → (w.alloc (.cells cs T)).cell? ((⟨q, 0, none⟩ : Addr).add j) = some u := by
  subst hq
  intro j u hj
  rw [show (⟨w.heap.size, 0, none⟩ : Addr).add j = ⟨w.heap.size, j, none⟩ by unfold Addr.add; split <;> simp_all, blk_cell (heap_alloc_new w _), ← hj, ← hc]
  simp
theorem wpList_appW {ops : Array Oper} {rest : List Oper} {o : Oper} {a : Act} {Q : Exit → Act → World → Prop} (w : World) (hgd : o.guard = none) (s x : Operand)
    (ho : o.op = .call { callee := .builtin .append, args := #[s, x], argTypes := #[22, 22] })
    (base : Nat) (v : Value) (xs : List Int) (hs : a.eval s = v) (hown : OwnW w base v xs) (ad : Addr) (m c : Nat) (ys : List Int) (hx : a.eval x = .slice (some ad) m c) (hm : ys.length = m)
    (hnews : ∀ (j : Nat) (u : Value), (wcs ys)[j]? = some u → w.cell? (ad.add j) = some u) (hsz : xs.length + ys.length ≤ 10000000) (hbase : base ≤ w.heap.size)
    (h : ∀ v' w', OwnW w' base v' (xs ++ ys) → Fr v.ownBlock.toList w w' → (∀ x ∈ v'.ownBlock.toList, x ∈ v.ownBlock.toList ∨ w.heap.size ≤ x) → wpList Tryd.prog ops Q rest (a.put o.dst v') w') : wpList Tryd.prog ops Q (o :: rest) a w := by
  obtain ⟨ti, hti, htz, hts, htb⟩ := info_parts (P := Tryd.prog) (e := 53) (z := .int .u64 0) (size := 1) (bytes := 8) (by kernel_rfl)
  refine wpList_append_own_at w hgd s x 22 ho base 53 ti (.int .u64 0) 1 8 Tryd.underlying22 hti htz hts htb rfl (by decide) v xs.length (wcs xs) hs hown ad m c (wcs ys) hx (by rw [wcs_len, hm]; omega) hnews (wcs_one ys) (by unfold maxLen; omega) (by omega) hbase ?_
  intro v' w' h1 h2 _ h4
  refine h v' w' ?_ (grown_fr h2) ?_
  · unfold OwnW
    rw [wcs_app, List.length_append, hm]
    exact h1
  · intro q hq
    rcases h4 with h4 | h4
    · left; rw [← h4]; exact hq
    · right; rw [h4] at hq; simp at hq; omega
/-- An own slice of values reads as values. -/
theorem OwnW.reads {w : World} {base : Nat} {v : Value} {xs : List Int} (h : OwnW w base v xs) (hb : ∀ x ∈ xs, 0 ≤ x ∧ x ≤ 18446744073709551615) :
    ∃ A cap, v = .slice A xs.length cap ∧ NAt w .u64 18446744073709551615 w.heap.size A xs ∧ (∀ a, A = some a → base ≤ a.block) := by
  obtain ⟨h0, ⟨rfl, h1⟩ | ⟨g, cap, cur, rfl, q1, q2, q3, q4, q5, q6⟩⟩ := h
  · refine ⟨none, 0, by rw [h1], Or.inl (List.length_eq_zero_iff.1 h1), by simp⟩
  · refine ⟨_, _, rfl, Or.inr ⟨g, 0, rfl, lt_of_heap q2, fun i x hx => ⟨?_, hb x (List.mem_of_getElem? hx)⟩⟩, fun a ha => by cases ha; exact q1⟩
    have hl := (List.getElem?_eq_some_iff.1 hx).1
    have := congrArg (fun l => l[i]?) q6
    simp only [Nat.mul_one] at this
    rw [List.getElem?_take, if_pos hl] at this
    rw [Nat.zero_add, blk_cell q2]
    simp [wcs, hx] at this
    simpa using this

/-- Whole values, of so many times eight bytes. -/
def wordsN (xs : List Int) : Nat → List Int
  | 0 => []
  | c + 1 => wordsN xs c ++ [num ((xs.drop (8 * c)).take 8)]
theorem wordsN_len (xs : List Int) : ∀ c, (wordsN xs c).length = c
  | 0 => rfl
  | c + 1 => by simp [wordsN, wordsN_len xs c]
theorem wordsN_mem (xs : List Int) (h : ∀ b ∈ xs, 0 ≤ b ∧ b ≤ 255) : ∀ c, ∀ v ∈ wordsN xs c, 0 ≤ v ∧ v ≤ 18446744073709551615
  | 0 => by simp [wordsN]
  | c + 1 => by
    intro v hv
    simp only [wordsN, List.mem_append, List.mem_singleton] at hv
    rcases hv with hv | rfl
    · exact wordsN_mem xs h c v hv
    · obtain ⟨m0, m1⟩ := num_bounds ((xs.drop (8 * c)).take 8) (fun v hv => h v (List.mem_of_mem_drop (List.mem_of_mem_take hv)))
      have m2 := p256_le ((xs.drop (8 * c)).take 8).length 8 (by simp; omega)
      have : p256 8 = 18446744073709551616 := rfl
      omega

/-- A slice's length. -/
def lenV : Value → Nat
  | .slice _ n _ => n
  | _ => 0
theorem OwnW.lenV {w : World} {base : Nat} {v : Value} {xs : List Int} (h : OwnW w base v xs) : lenV v = xs.length := by
  obtain ⟨h0, ⟨rfl, h1⟩ | ⟨g, cap, cur, rfl, _⟩⟩ := h
  · simp [Go.Proofs.YtoebfpimojkamaaDoor.lenV, h1]
  · rfl
theorem own_geW {w : World} {base : Nat} {v : Value} {xs : List Int} (h : OwnW w base v xs) : ∀ x ∈ v.ownBlock.toList, base ≤ x := own_ge h

/-- Package wire's variables. -/
structure Gl (w : World) (a : Addr) : Prop where
  ef : w.cell? ⟨0, 0, none⟩ = some (.iface 103 (.pointer (some a)))
  et : w.cell? ⟨1, 0, none⟩ = some (.iface 90 (.agg #[hnd 62]))
  lt : 1 < w.heap.size
theorem Gl.fr {S : List Nat} {w w' : World} {a : Addr} (h : Gl w a) (f : Fr S w w') (hS : ∀ x ∈ S, 1 < x) : Gl w' a :=
  ⟨(by simp only [World.cell?, f.block 0 (by have := h.lt; omega) (fun hx => by have := hS 0 hx; omega)]; exact h.ef), (by simp only [World.cell?, f.block 1 h.lt (fun hx => by have := hS 1 hx; omega)]; exact h.et), Nat.lt_of_lt_of_le h.lt f.size⟩
abbrev vForm (a : Addr) : Value := .iface 103 (.pointer (some a))
abbrev vShort (m : Int) : Value := .iface 74 (.agg #[.int .i64 m])

/-- What 'values' comes to. -/
structure ValsPost (p : Nat) (xs : List Int) (e0 : Value) (g : Addr) (w : World) (e : Ending) (w' : World) : Prop where
  val : ∃ A cap l ys e', e = .returned (.slice A l.length cap) ∧ NAt w' .u64 18446744073709551615 w'.heap.size A l ∧ (∀ a, A = some a → w.heap.size ≤ a.block) ∧ RdAt w' p ys e' ∧
    ((e0 = .nilIface ∧ xs.length % 8 = 0 ∧ xs.length ≤ 64 ∧ l = wordsN xs (xs.length / 8) ∧ ys = [] ∧ e' = .nilIface) ∨ ((e0 ≠ .nilIface ∨ xs.length % 8 ≠ 0 ∨ 64 < xs.length) ∧ (e' = e0 ∧ e0 ≠ .nilIface ∨ e' = vForm g ∨ ∃ m, e' = vShort m)))
  fr : Fr [p] w w'

set_option maxRecDepth 100000 in
set_option maxHeartbeats 2000000 in
theorem wvalues (p : Nat) (xs : List Int) (e0 : Value) (g : Addr) (h0 : e0 = .nilIface ∨ e0 = vForm g ∨ ∃ m, e0 = vShort m) (w : World) (hr : RdAt w p xs e0) (hG : Gl w g) (hp1 : 1 < p) :
    Calls Tryd.prog 32 #[.pointer (some ⟨p, 0, none⟩)] w fun e w' => ValsPost p xs e0 g w e w' := by
  have HR := Lib.hid hr
  obtain ⟨⟨A, cap, hp, hN, hc⟩, hl⟩ := hr
  have hl' : (xs.length : Int) ≤ 1000 := by omega
  have pl := lt_of_heap hp
  have gE := (hG).ef; have gT := (hG).et; have gl1 := (hG).lt; refine side_use (gl1) ?_; intro _ _ _ _ _; refine side_use (Nat.lt_of_lt_of_le (by decide : 0 < 1) (Nat.le_of_lt gl1)) ?_; intro _ _ _ _ _
  apply blk_use hp; intro hg1 hc1 hz1 _ _ _ _ _
  by_cases h64 : 64 < xs.length
  · clear h0
    have HN := Lib.hid hN
    clear hN
    go_enter Tryd.func32, Tryd.ntmps32
    go_wp2_with fail
    go_ret
    refine ⟨⟨none, 0, [], xs, vForm g, rfl, NAt.nil _ _ _ _ _, by simp, ⟨⟨A, cap, by (apply heap_eq_of; (focus (repeat (first | (with_reducible assumption) | ((with_reducible refine heap_alloc_at ?_ _); first | (with_reducible rfl) | (focus (simp; done))) | (with_reducible apply heap_alloc_old) | ((with_reducible apply heap_set_other); (case hne => (first | (with_reducible assumption) | exact Nat.ne_of_lt (by with_reducible assumption) | exact Nat.ne_of_gt (by with_reducible assumption) | (focus (simp +arith; done)) | (simp; done)))) | (with_reducible apply heap_set_eq) | (with_reducible apply heap_drew_of) | (with_reducible apply heap_drewN_of)))); (focus (first | (simp; done) | rfl))), NAt.fr (S := [p]) HN.out (by repeat' (first | (with_reducible exact Fr.refl _ _) | (with_reducible assumption) | (with_reducible refine Fr.drew ?_) | (with_reducible refine Fr.drewN ?_ _) | (with_reducible refine Fr.alloc ?_ _) | ((with_reducible refine Fr.setNew ?_ _ ?_ _); rotate_left; (focus (first | (with_reducible assumption) | exact Nat.le_of_lt (by with_reducible assumption) | (focus (simp +arith; done)) | exact Nat.le_trans (by with_reducible assumption) (by simp +arith; done) | (simp; done)))) | ((with_reducible refine Fr.setOld ?_ _ ?_ _); rotate_left; (focus (simp; done))))) (by omega) (by simp), hc⟩, hl⟩, Or.inr ⟨Or.inr (Or.inr h64), Or.inr (Or.inl rfl)⟩⟩, (by repeat' (first | (with_reducible exact Fr.refl _ _) | (with_reducible assumption) | (with_reducible refine Fr.drew ?_) | (with_reducible refine Fr.drewN ?_ _) | (with_reducible refine Fr.alloc ?_ _) | ((with_reducible refine Fr.setNew ?_ _ ?_ _); rotate_left; (focus (first | (with_reducible assumption) | exact Nat.le_of_lt (by with_reducible assumption) | (focus (simp +arith; done)) | exact Nat.le_trans (by with_reducible assumption) (by simp +arith; done) | (simp; done)))) | ((with_reducible refine Fr.setOld ?_ _ ?_ _); rotate_left; (focus (simp; done)))))⟩
  · by_cases he : e0 = .nilIface
    · subst he
      clear h0
      have HN := Lib.hid hN
      clear hN
      go_enter Tryd.func32, Tryd.ntmps32
      go_wp2_with fail
      go_loopw [3] (fun u w' => ∃ l, OwnW w' w.heap.size u l ∧ Fr [p] w w' ∧ ((∃ c, 8 * c ≤ xs.length ∧ l = wordsN xs c ∧ RdAt w' p (xs.drop (8 * c)) .nilIface) ∨ (∃ ys m, xs.length % 8 ≠ 0 ∧ l.length ≤ 9 ∧ (∀ x ∈ l, 0 ≤ x ∧ x ≤ 18446744073709551615) ∧ 0 < ys.length ∧ RdAt w' p ys (vShort m)))) (fun u _ => 20 - lenV u)
      case atStart => exact ⟨[], OwnW.nil _ _, Fr.refl _ _, Or.inl ⟨0, by omega, rfl, HR.out⟩⟩
      case round =>
        obtain ⟨l, O1, F1, ⟨c, c1, rfl, R1⟩ | ⟨ys, m, m1, m2, m3, m4, R1⟩⟩ := hrel
        · have HR1 := Lib.hid R1
          obtain ⟨⟨A1, cap1, hp1', hN1, hc1'⟩, hl1⟩ := R1
          have hN1 := Lib.hid hN1
          apply blk_use hp1'; intro hg3 hc3 hz3 _ _ _ _ _
          have z1 := F1.size
          by_cases hd : 8 * c = xs.length
          · obtain ⟨A2, cap2, rfl, N2, B2⟩ := O1.reads (wordsN_mem xs HR.out.mem c)
            go_wp2_with fail
            go_ret
            have hcc : c = xs.length / 8 := by omega
            refine ⟨⟨A2, cap2, wordsN xs c, xs.drop (8 * c), .nilIface, rfl, N2, B2, HR1.out, Or.inl ⟨rfl, by omega, by omega, by rw [← hcc], List.drop_of_length_le (by omega), rfl⟩⟩, F1⟩
          · have hO1 := Lib.hid O1
            have hls := wordsN_len xs c
            have hlv := O1.lenV
            clear O1
            go_wp2_with fail
            refine (wgetc p (xs.drop (8 * c)) .nilIface 8 8 rfl (by omega) _ HR1.out).mono ?_
            rintro e w2 ⟨hv2, F2⟩
            have F2' := F1.trans F2
            have z2 := F2.size
            rcases hv2 with ⟨q1, rfl, R2⟩ | ⟨q1, rfl, R2⟩
            · have R2 := Lib.hid R2
              go_wp2_with (at_builtin; refine wpList_appW _ rfl (.tmp 30) (.tmp 33) rfl w.heap.size _ (wordsN xs c) rfl (OwnW.fr (S := [p]) (OwnW.fr hO1.out F2 (by simp; omega)) (by repeat' (first | (with_reducible exact Fr.refl _ _) | (with_reducible assumption) | (with_reducible refine Fr.drew ?_) | (with_reducible refine Fr.drewN ?_ _) | (with_reducible refine Fr.alloc ?_ _) | ((with_reducible refine Fr.setNew ?_ _ ?_ _); rotate_left; (focus (first | (with_reducible assumption) | exact Nat.le_of_lt (by with_reducible assumption) | (focus (simp +arith; done)) | exact Nat.le_trans (by with_reducible assumption) (by simp +arith; done) | (simp; done)))) | ((with_reducible refine Fr.setOld ?_ _ ?_ _); rotate_left; (focus (simp; done))))) (by simp; omega)) ⟨w2.heap.size, 0, none⟩ 1 1 [0] rfl rfl (words_new _ _ _ _ rfl _ rfl) (by simp; omega) (by simp; omega) ?_; intro v3 w3 O3 G3 U3)
              have G3' : Fr u3.ownBlock.toList w2 w3 := Fr.trans' (S := u3.ownBlock.toList) (by repeat' (first | (with_reducible exact Fr.refl _ _) | (with_reducible assumption) | (with_reducible refine Fr.drew ?_) | (with_reducible refine Fr.drewN ?_ _) | (with_reducible refine Fr.alloc ?_ _) | ((with_reducible refine Fr.setNew ?_ _ ?_ _); rotate_left; (focus (first | (with_reducible assumption) | exact Nat.le_of_lt (by with_reducible assumption) | (focus (simp +arith; done)) | exact Nat.le_trans (by with_reducible assumption) (by simp +arith; done) | (simp; done)))) | ((with_reducible refine Fr.setOld ?_ _ ?_ _); rotate_left; (focus (simp; done))))) G3 (fun x hx => Or.inl hx)
              have R3 := R2.out.fr G3' (fun x hx => by have := own_geW hO1.out x hx; omega)
              have F3 := F2'.trans' G3' (fun x hx => Or.inr (own_geW hO1.out x hx))
              have hlw := O3.lenV
              go_roundw
              case rel =>
                refine ⟨_, O3, F3, Or.inr ⟨_, _, by simp at q1; omega, by simp; omega, fun x hx => ?_, by simp; omega, R3⟩⟩
                simp only [List.mem_append, List.mem_singleton] at hx
                rcases hx with hx | rfl
                · exact wordsN_mem xs HR.out.mem c x hx
                · omega
              case measure => rw [hlw, hlv]; simp; omega
            · have R2 := Lib.hid R2
              go_wp2_with (at_builtin; refine wpList_appW _ rfl (.tmp 30) (.tmp 33) rfl w.heap.size _ (wordsN xs c) rfl (OwnW.fr (S := [p]) (OwnW.fr hO1.out F2 (by simp; omega)) (by repeat' (first | (with_reducible exact Fr.refl _ _) | (with_reducible assumption) | (with_reducible refine Fr.drew ?_) | (with_reducible refine Fr.drewN ?_ _) | (with_reducible refine Fr.alloc ?_ _) | ((with_reducible refine Fr.setNew ?_ _ ?_ _); rotate_left; (focus (first | (with_reducible assumption) | exact Nat.le_of_lt (by with_reducible assumption) | (focus (simp +arith; done)) | exact Nat.le_trans (by with_reducible assumption) (by simp +arith; done) | (simp; done)))) | ((with_reducible refine Fr.setOld ?_ _ ?_ _); rotate_left; (focus (simp; done))))) (by simp; omega)) ⟨w2.heap.size, 0, none⟩ 1 1 [num (List.take 8 (List.drop (8 * c) xs))] rfl rfl (words_new _ _ _ _ rfl _ rfl) (by simp; omega) (by simp; omega) ?_; intro v3 w3 O3 G3 U3)
              have G3' : Fr u3.ownBlock.toList w2 w3 := Fr.trans' (S := u3.ownBlock.toList) (by repeat' (first | (with_reducible exact Fr.refl _ _) | (with_reducible assumption) | (with_reducible refine Fr.drew ?_) | (with_reducible refine Fr.drewN ?_ _) | (with_reducible refine Fr.alloc ?_ _) | ((with_reducible refine Fr.setNew ?_ _ ?_ _); rotate_left; (focus (first | (with_reducible assumption) | exact Nat.le_of_lt (by with_reducible assumption) | (focus (simp +arith; done)) | exact Nat.le_trans (by with_reducible assumption) (by simp +arith; done) | (simp; done)))) | ((with_reducible refine Fr.setOld ?_ _ ?_ _); rotate_left; (focus (simp; done))))) G3 (fun x hx => Or.inl hx)
              have R3 := R2.out.fr G3' (fun x hx => by have := own_geW hO1.out x hx; omega)
              have F3 := F2'.trans' G3' (fun x hx => Or.inr (own_geW hO1.out x hx))
              have hlw := O3.lenV
              go_roundw
              case rel => exact ⟨_, O3, F3, Or.inl ⟨c + 1, by simp at q1; omega, rfl, by rw [List.drop_drop] at R3; exact R3⟩⟩
              case measure => rw [hlw, hlv]; simp; omega
        · obtain ⟨⟨A1, cap1, hp1', hN1, hc1'⟩, hl1⟩ := R1
          have hN1 := Lib.hid hN1
          apply blk_use hp1'; intro hg3 hc3 hz3 _ _ _ _ _
          have HO := Lib.hid O1
          obtain ⟨A2, cap2, rfl, N2, B2⟩ := O1.reads m3
          go_wp2_with fail
          go_ret
          exact ⟨⟨A2, cap2, l, ys, vShort m, rfl, N2, B2, ⟨⟨A1, cap1, hp1', hN1.out, hc1'⟩, hl1⟩, Or.inr ⟨Or.inr (Or.inl m1), Or.inr (Or.inr ⟨m, rfl⟩)⟩⟩, F1⟩
    · have HN := Lib.hid hN
      clear hN
      rcases h0 with rfl | rfl | ⟨m, rfl⟩
      · exact absurd rfl he
      all_goals
        clear he
        go_enter Tryd.func32, Tryd.ntmps32
        go_wp2_with fail
        go_loopw [3] (fun u w' => u = .slice none 0 0 ∧ Fr [] w w') (fun _ _ => 0)
        case atStart => exact ⟨rfl, Fr.refl _ _⟩
        case round =>
          obtain ⟨rfl, F1⟩ := hrel
          have hp := F1.heap hp (by simp)
          apply blk_use hp; intro hg3 hc3 hz3 _ _ _ _ _
          go_wp2_with fail
          all_goals go_ret
          all_goals exact ⟨⟨none, 0, [], xs, _, rfl, NAt.nil _ _ _ _ _, by simp, HR.out.fr F1 (by simp), Or.inr ⟨Or.inl (by simp), Or.inl ⟨rfl, by simp⟩⟩⟩, F1.mono (by simp)⟩

end Go.Proofs.YtoebfpimojkamaaDoor
