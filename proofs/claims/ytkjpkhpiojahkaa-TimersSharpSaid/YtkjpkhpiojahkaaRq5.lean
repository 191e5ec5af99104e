/-
  Walks: a queue's Least.
-/
import Derived.Test.YtkjpkhpiojahkaaRq4
import Derived.Test.YtkjpkhpiojahkaaKAA
import Derived.Test.YtkjpkhpiojahkaaBase
namespace Go.Proofs.Ytkjpkhpiojahkaa
set_option linter.unusedVariables false
open Go.RowKit Hp
attribute [local go_sem] Oper.semAt_some

theorem keySlice : SliceOf Try.prog 30 24 2 16 := by
  obtain ⟨i0, hi0, hz0, hz1, hz2⟩ := info_parts2 Try.info24
  exact ⟨Try.underlying30, ⟨i0, _, hi0, hz0, hz1, hz2, rfl⟩, by omega⟩
/-- keys in a row of the call's own -/
def keysA (v : Value) (T : List (It Int)) : Ast := rowA v 24 2 T.length (T.flatMap keyC)
theorem keysA_nil (w : World) : (keysA (.slice none 0 0) []).holds w (fun _ => False) := ⟨World.ownsRow_nil _ _ _ _, fun j => by simp [Value.ownBlock]⟩
theorem keysA_of {w : World} {v : Value} {T : List (It Int)} {n : Nat} {xs : List Value} (h : w.ownsRow 0 24 2 v n xs) (hn : n = T.length) (hx : xs = T.flatMap keyC) : (keysA v T).holds w (fun j => v.ownBlock = some j) := by
  subst hn hx
  exact ⟨h, fun j => Iff.rfl⟩
def leastS (S : List (It Int)) (n : Int) : List (It Int) := if n < 1 then [] else S.take n.toNat
/-- a key of a heap's, as a row of keys holds it -/
def kC (x : It (Int × Int)) : List Value := [.int .i64 x.2.1, .int .i64 x.2.2]
theorem kC_itq (T : List (It Int)) : (itq T).flatMap kC = T.flatMap keyC := by
  unfold itq
  rw [List.flatMap_map]
  rfl

theorem own_form1 {w : World} {B t size n : Nat} {v : Value} {xs : List Value} (h : w.ownsRow B t size v (n + 1) xs) : ∃ q cc, v = .slice q (n + 1) cc := by
  rcases own_parts h with ⟨_, h2⟩ | ⟨_, _, _, h1, _⟩
  · cases h2
  · exact ⟨_, _, h1⟩
/-- what has been taken so far: behind the world x, in the row that the box bo holds -/
def LeastI (x : World) (bo : Nat) (O : Nat → Prop) (pre : List (It (Int × Int))) (A : World) : Prop :=
  ∃ v, A.heap[bo]? = some (.cells #[v] 30 (0, 0)) ∧ A.ownsRow 0 24 2 v pre.length (pre.flatMap kC) ∧ (∀ j, v.ownBlock = some j → x.heap.size ≤ j ∧ ¬ O j) ∧ Mod (fun j => j = bo) x A ∧ ∀ j, O j → x.heap.size ≤ j
section
variable {x A A' A1 A2 : World} {bo : Nat} {O O' R : Nat → Prop} {pre : List (It (Int × Int))}
theorem LeastI.mv (hbo : bo < x.heap.size) (h : LeastI x bo O pre A) (hm : Mv O x.heap.size A A') (hO : ∀ j, O' j → O j ∨ A.heap.size ≤ j) : LeastI x bo O' pre A' := by
  obtain ⟨v, h1, h2, h3, h4, h5⟩ := h
  have hsz := h4.size
  refine ⟨v, hm.obj h1 rfl (fun h => by have := h5 _ h; omega), own_same h2 (fun j o hj ho hc => hm.obj ho hc (h3 j hj).2), fun j hj => ⟨(h3 j hj).1, fun h => ?_⟩, h4.then_mv hm (fun i hi hlt => by have := h5 i hi; omega) (Nat.le_refl _), fun j hj => (hO j hj).elim (h5 j) (fun h => by omega)⟩
  rcases hO j h with h | h
  · exact (h3 j hj).2 h
  · have := own_lt h2 hj; omega
theorem LeastI.push {v v' : Value} {y : It (Int × Int)} (hbo : bo < x.heap.size) (ho : A.heap[bo]? = some (.cells #[v] 30 (0, 0))) (hv : ∀ j, v.ownBlock = some j → x.heap.size ≤ j ∧ ¬ O j) (hm : Mod (fun j => j = bo) x A)
    (hown0 : A.ownsRow 0 24 2 v pre.length (pre.flatMap kC)) (hO : ∀ j, O j → x.heap.size ≤ j) (hOl : ∀ j, O j → j < A.heap.size) (hR : ∀ j, R j → j < x.heap.size ∧ j ≠ bo)
    (hb : Below A.heap.size A A1) (hg : A1.grownBy A2 v.ownBlock) (hown : A2.ownsRow 0 24 2 v' (pre.length + 1) (pre.flatMap kC ++ kC y)) (hat : v'.ownBlock = v.ownBlock ∨ v'.ownBlock = some A1.heap.size) :
    A2.heap[bo]? = some (.cells #[v] 30 (0, 0)) ∧ (∀ p u, A.cell? p = some u → p.block < x.heap.size → A2.cell? p = some u) ∧ LeastI x bo O (pre ++ [y]) (A2.setCell ⟨bo, 0, none⟩ v') ∧ Keeps (fun j => R j ∨ O j) A (A2.setCell ⟨bo, 0, none⟩ v') ∧ Ctl x.heap.size A (A2.setCell ⟨bo, 0, none⟩ v') := by
  have hsz := hm.size
  have hs1 := hb.size
  have hvb : ¬ v.ownBlock = some bo := fun e => by have := (hv bo e).1; omega
  have hv'b : ¬ v'.ownBlock = some bo := fun e => by
    rcases hat with h | h
    · rw [h] at e; exact hvb e
    · rw [h] at e; cases e; omega
  have hg' : Mod (fun j => v.ownBlock = some j) A1 A2 := (Mod.refl _ A1).grown hg fun k hk _ => ⟨hk, fun o ho' => by
    rcases own_parts hown0 with ⟨h1, _⟩ | ⟨g, cap, cur, h1, _, h3, _⟩
    · rw [h1] at hk; simp [Value.ownBlock] at hk
    · rw [h1] at hk; simp [Value.ownBlock] at hk
      subst hk
      have h4 := (Mod.of_below (S := none') hb).obj h3 (fun h => h)
      rw [h4] at ho'
      cases ho'
      rfl⟩
  have hst : Mod (fun j => j = bo) A2 (A2.setCell ⟨bo, 0, none⟩ v') := (Mod.refl (fun j => j = bo) A2).setCell (p := ⟨bo, 0, none⟩) (fun _ => rfl) _
  have hall : Mod (fun j => v.ownBlock = some j ∨ j = bo) A (A2.setCell ⟨bo, 0, none⟩ v') :=
    ((Mod.of_below (S := fun j => v.ownBlock = some j ∨ j = bo) hb).trans' (hg'.mono fun j h _ => .inl h)).trans' (hst.mono fun j h _ => .inr h)
  have ho2 : A2.heap[bo]? = some (.cells #[v] 30 (0, 0)) := hg'.obj ((Mod.of_below (S := none') hb).obj ho (fun h => h)) hvb
  refine ⟨ho2, fun p u hp hlt => hg'.cell ((Mod.of_below (S := none') hb).cell hp (fun h => h)) (fun e => by have := (hv _ e).1; omega), ⟨v', ?_, ?_, fun j hj => ?_, hm.trans hall (fun j hj hl => ?_), hO⟩, hall.keeps (fun j hj hlt => ?_), hall.ctl _⟩
  · rw [heap_setCell_at ho2]; rfl
  · rw [List.length_append, List.flatMap_append]
    have he : ([y] : List (It (Int × Int))).flatMap kC = kC y := by simp
    rw [he]
    exact own_same hown fun j o hj ho _ => hst.obj ho (fun e => hv'b (by rw [← e]; exact hj))
  · rcases hat with h | h
    · rw [h] at hj; exact hv j hj
    · rw [h] at hj; cases hj
      exact ⟨by omega, fun h => by have := hOl _ h; omega⟩
  · rcases hj with h | h
    · have := (hv j h).1; omega
    · exact h
  · rcases hj with h | h
    · have := hR j h
      rintro (h' | h')
      · have := (hv j h').1; omega
      · exact this.2 h'
    · have := hO j h
      rintro (h' | h')
      · exact (hv j h').2 h
      · omega
end

section
variable {w0 w : World} {qb : Nat} {S : List (It Int)} {R : Ast}

set_option maxRecDepth 100000 in
set_option maxHeartbeats 1000000 in
theorem Q_least_no (h : On w0 w (sep (quA qb S) R)) (n : Int) (hn : n < 1) :
    Calls Try.prog 29 #[.pointer (some ⟨qb, 0, none⟩), .int .i64 n] w fun e w' => ∃ v, e = .returned v ∧ On w0 w' (sep (keysA v (leastS S n)) (sep (quA qb S) R)) := by
  have h1 := (h.new1 3 #[.int .i64 n]).new1 30 #[.slice none 0 0]
  have hl : leastS S n = [] := by unfold leastS; rw [if_pos hn]
  have H1 := Lib.hid h1
  have HL := Lib.hid hl
  have hn' : (n < 1) = True := by simp [hn]
  clear h h1 hl
  refine (callsIn_wide (n := 9)).1 ?_
  refine callsIn_of_wp_marks Try.func29 rfl trivial ?_ rfl
  simp only [Try.ntmps29, List.size_toArray, List.length_cons, List.length_nil, Nat.reduceAdd, Nat.reduceSub, Array.replicate_succ, Array.replicate_zero, List.push_toArray, List.append_toArray, List.nil_append, List.cons_append]
  gi_wp2_with fail
  refine ⟨.slice none 0 0, by simp [results, Try.f29, go_sem], _, rfl, ?_⟩
  rw [HL.out]
  exact H1.out.out1.out1.add (Below.refl _ _) (keysA_nil _) (fun _ h => h.elim)
end
set_option maxRecDepth 100000 in
set_option maxHeartbeats 4000000 in
theorem Q_least_yes {w0 w : World} {qb : Nat} {S : List (It Int)} {R : Ast} (h : On w0 w (sep (quA qb S) R)) (hs : Sorted ltI S) (hl : S.length < 900000) (n : Int) (hn : 1 ≤ n) :
    Calls Try.prog 29 #[.pointer (some ⟨qb, 0, none⟩), .int .i64 n] w fun e w' => ∃ v, e = .returned v ∧ On w0 w' (sep (keysA v (leastS S n)) (sep (quA qb S) R)) := by
  obtain ⟨p1, p2, ho⟩ := h.qu_open
  obtain ⟨bn, hbn⟩ : ∃ bn, w.heap.size = bn := ⟨_, rfl⟩
  have h1 := (ho.new1 3 #[.int .i64 n]).new1 30 #[.slice none 0 0]
  simp only [World.size_alloc, hbn] at h1
  obtain ⟨W, hW⟩ : ∃ W, (w.alloc (.cells #[.int .i64 n] 3)).alloc (.cells #[.slice none 0 0] 30) = W := ⟨_, rfl⟩
  rw [hW] at h1
  obtain ⟨F, hF, _⟩ := (h1.sw2.sw1.sw0).get1
  have hal := Ke.All_new hF (by rw [itq_length]; omega)
  have HAl := Lib.hid hal
  have q1' := ((h1.sw1.sw0).box1 0).1
  have q1 : W.cell? ⟨qb, 0, none⟩ = some (.pointer (some ⟨p1, 0, none⟩)) := q1'
  have q2' := ((h1.sw0).box1 0).1
  have q2 : W.cell? ⟨bn, 0, none⟩ = some (.int .i64 n) := q2'
  have H1 := Lib.hid h1
  have HW := Lib.hid hW
  have hn' : (n < 1) = False := by simp; omega
  clear h ho h1 hal hF q1' q2'
  refine (callsIn_wide (n := 9)).1 ?_
  refine callsIn_of_wp_marks Try.func29 rfl trivial ?_ rfl
  simp only [Try.ntmps29, List.size_toArray, List.length_cons, List.length_nil, Nat.reduceAdd, Nat.reduceSub, Array.replicate_succ, Array.replicate_zero, List.push_toArray, List.append_toArray, List.nil_append, List.cons_append]
  gi_wp2_with fail
  refine ⟨trivial, ?_⟩
  refine (callsIn_wide.2 HAl.out).mono ?_
  rintro e x3 ⟨B, hb2, F2, rfl, hB, hA3, hb3, hBn, hFn⟩
  have h3 := H1.out.below hb3
  have hbo := (h3).obj1
  have hq : ∀ w, (binOp BinOp.eql 84 (.func (.func 143) #[] #[.pointer (some ⟨B, 0, none⟩)]) .nilFunc).run Try.prog w = .ok (.bool false) w := fun w => by kernel_rfl
  have hWs : W.heap.size = bn + 2 := by rw [← HW.out]; simp [hbn]
  have hlB : B < x3.heap.size := World.block_lt_of_cell? x3 _ hB
  have hlF : ∀ j, F2 j → W.heap.size ≤ j ∧ j < x3.heap.size := fun j hj => ⟨hFn j hj, hA3.lt_F hj⟩
  have r2' := ((h3.sw0).box1 0).1
  have r2 : x3.cell? ⟨bn, 0, none⟩ = some (.int .i64 n) := r2'
  have HH3 := Lib.hid h3
  have HBo := Lib.hid hbo
  have HB := Lib.hid hB
  have HA3 := Lib.hid hA3
  have HWs := Lib.hid hWs
  have HlF := Lib.hid hlF
  have HR2 := Lib.hid r2
  have HBn := Lib.hid hBn
  have HS := Lib.hid hs
  clear h3 hbo hB hA3 hWs hlF hb3 hBn hFn q1 q2 r2 r2' hbn hs
  gi_wp2_with fail
  have hbo1 : bn + 1 < x3.heap.size := by have := HH3.out.obj1; exact lt_of_some this
  have HBo1 := Lib.hid hbo1
  have hfin : Hid (∀ (D : Nat) (A : World) (O : Nat → Prop) (pre : List (It (Int × Int))) (v : Value), x3.heap.size ≤ D → LeastI x3 (bn + 1) O pre A → A.cell? ⟨bn + 1, 0, none⟩ = some v → (pre.flatMap kC = (leastS S n).flatMap keyC ∧ pre.length = (leastS S n).length) → A.heap[D]? = some (.deferred (some [])) →
      ∀ t, t.size = 31 → t[4]? = some v → bodyPostM Fence.wide 9 Try.prog Try.f29 (fun e w' => ∃ v, e = .returned v ∧ On w0 w' (sep (keysA v (leastS S n)) (sep (quA qb S) R))) .ret { tmps := t, defers := [{ target := .collected D, args := #[] }] } A) := Lib.hid fun D A O pre v hD g1 hv ht hK t ht1 ht2 => by
    refine ⟨by simp, .inl ⟨_, _, rfl, run_takeDeferred hK, ?_⟩⟩
    have g2 := g1.mv HBo1.out ((Mv.putObj (S := none') (B := x3.heap.size) A D _ (.deferred none) hK rfl hD).mono (fun i h _ => h.elim) (Nat.le_refl _)) (fun _ h => .inl h)
    obtain ⟨v', h1, h2, h3, h4, h5⟩ := g2
    have hvc := (Mv.putObj (S := none') (B := x3.heap.size) A D _ (.deferred none) hK rfl hD).cell hv (fun h => h)
    have hvv : v' = v := by
      simp only [World.cell?, h1] at hvc
      exact Option.some.inj hvc
    subst hvv
    have hst : On w0 (A.putObj D (.deferred none)) (sep (keysA v' (leastS S n)) (sep (boxA bn 3 #[.int .i64 n]) (sep (boxA qb 138 #[.pointer (some ⟨p1, 0, none⟩), .pointer (some ⟨p2, 0, none⟩)]) (sep (Ke.HK p1 31 Ke.bef (itq S)) (sep (Ke.HK p2 91 Ke.feb (itq S)) R))))) :=
      HH3.out.step1 fun F hF => ⟨_, keysA_of h2 ht.2 ht.1, h4.mono (fun j hj _ => (hF.2 j).2 hj), fun j hj => .inr (h3 j hj).1⟩
    refine ⟨v', by simp [results, Try.f29, go_sem, ht2], _, rfl, On.left (On.qu_shut (On.out1 (hst.sw0.sw1.sw2.sw3)))⟩
  refine wpIn_range2 rfl (by omega) (gf := 143) (lb := #[.pointer (some ⟨B, 0, none⟩)]) rfl trivial (enters_of Try.func143 (by kernel_rfl) rfl)
    (Ke.All1_iter2 Ke.lessB _ B hb2 F2 (itq S) x3 HB.out HA3.out (itq_sorted HS.out) (by rw [itq_length]; omega)) (Keeps.refl _ _) (fun _ => rfl)
    (fun O pre A => LeastI x3 (bn + 1) O pre A ∧ (pre.length : Int) < n)
    (fun c O pre A => c = .exit 0 ∧ LeastI x3 (bn + 1) O pre A ∧ (pre.length : Int) = n)
    (fun O O' s A A' h hm' hg => ⟨h.1.mv HBo1.out hm' hg, h.2⟩)
    (fun c O O' s A A' h hm' hg => ⟨h.1, h.2.1.mv HBo1.out hm' hg, h.2.2⟩)
    ⟨⟨_, HBo.out, World.ownsRow_nil _ _ _ _, fun j hj => by simp [Value.ownBlock] at hj, Mod.refl _ _, fun j hj => hj.elim⟩, by simp; omega⟩ ?round ?done ?stop
  case round =>
    clear hfin
    rintro l O pre ⟨x1, y1, y2⟩ A hlA _ ⟨g1, g6⟩ hO hpre
    have hlp := hpre.length_le
    rw [itq_length, List.length_append] at hlp
    have hmA : Mod none' A (A.alloc (.cells #[.int .i64 y1, .int .i64 y2] 24)) := (Mod.refl _ A).alloc _
    have hoA : (A.alloc (.cells #[.int .i64 y1, .int .i64 y2] 24)).heap[A.heap.size]? = some (.cells #[.int .i64 y1, .int .i64 y2] 24 (0, 0)) := heap_alloc_new A _
    have HmA := Lib.hid hmA
    have HoA := Lib.hid hoA
    have HO := Lib.hid hO
    have G1 := Lib.hid g1
    clear hmA hoA hO g1 hpre
    gi_wp2_with fail
    refine ⟨HmA.out.ctl _, HmA.out.keeps (fun _ _ _ h => h), fun Wb hmb ⟨_, _⟩ => ?_⟩
    have hzA := HmA.out.size
    have hzb := hmb.size
    have g1 := G1.out.mv HBo1.out ((HmA.out.mv _).mono (fun _ h _ => h.elim) (Nat.le_refl _)) (fun j hj => .inl hj)
    replace g1 := g1.mv HBo1.out (hmb.mono (fun _ h _ => h.elim) (Nat.le_refl _)) (fun j hj => .inl hj)
    have hkb := hmb.obj HoA.out rfl (fun h => h)
    obtain ⟨v, g1, g2, g3, g4, g5⟩ := g1
    obtain ⟨q, cc, rfl⟩ : ∃ q cc, v = .slice q pre.length cc := by
      rcases own_parts g2 with ⟨h1, h2⟩ | ⟨_, _, _, h1, _⟩
      · exact ⟨_, _, by rw [h2]; exact h1⟩
      · exact ⟨_, _, h1⟩
    have k0 : Wb.cell? ⟨A.heap.size, 0, none⟩ = some (.int .i64 y1) := by simp [World.cell?, hkb]
    have k1 : Wb.cell? ⟨A.heap.size, 1, none⟩ = some (.int .i64 y2) := by simp [World.cell?, hkb]
    have k2 : Wb.cell? ⟨bn + 1, 0, none⟩ = some (.slice q pre.length cc) := by simp [World.cell?, g1]
    have k3 : Wb.frozen? ⟨bn + 1, 0, none⟩ = false := by simp [World.frozen?, g1]
    have k4 : Wb.cell? ⟨bn, 0, none⟩ = some (.int .i64 n) := g4.cell HR2.out (by dsimp only; omega)
    have HG1 := Lib.hid g1
    have HG2 := Lib.hid g2
    have HG3 := Lib.hid g3
    have HG4 := Lib.hid g4
    have HG5 := Lib.hid g5
    have hkc : ∀ u ∈ kC (x1, (y1, y2)), u.oneCell' = true := by
      intro u hu
      simp [kC] at hu
      rcases hu with rfl | rfl <;> rfl
    have hmx : pre.length + 1 ≤ maxLen := by unfold maxLen; omega
    have hby : (pre.length + 1) * 16 ≤ 140737488355328 := by omega
    have hrd : Reads (Wb.alloc (.cells #[.int .i64 y1, .int .i64 y2] 24)) (.slice (some ⟨Wb.heap.size, 0, none⟩) 1 1) 2 1 (kC (x1, (y1, y2))) := by
      refine .inr ⟨_, _, rfl, rfl, fun j u hu => ?_⟩
      have hjl : j < 2 := by have := (List.getElem?_eq_some_iff.1 hu).1; simpa [kC] using this
      match j, hjl with
      | 0, _ => cases hu; rw [show (⟨Wb.heap.size, 0, none⟩ : Addr).add 0 = ⟨Wb.heap.size, 0, none⟩ from rfl, World.cell?_alloc_at _ _ _ _ rfl]; rfl
      | 1, _ => cases hu; rw [show (⟨Wb.heap.size, 0, none⟩ : Addr).add 1 = ⟨Wb.heap.size, 1, none⟩ from rfl, World.cell?_alloc_at _ _ _ _ rfl]; rfl
    have hbk : Below Wb.heap.size Wb (Wb.alloc (.cells #[.int .i64 y1, .int .i64 y2] 24)) := (Below.refl _ Wb).alloc (Nat.le_refl _) _
    have how : (Wb.alloc (.cells #[.int .i64 y1, .int .i64 y2] 24)).ownsRow 0 24 2 (.slice q pre.length cc) pre.length (pre.flatMap kC) := own_same HG2.out fun j o hj ho hc => (Mod.of_below (S := none') hbk).obj ho (fun h => h)
    have hpush := fun (v' : Value) (A2 : World) => LeastI.push (R := fun j => F2 j ∨ j = B) (v' := v') (A2 := A2) (y := (x1, (y1, y2))) HBo1.out HG1.out HG3.out HG4.out HG2.out HG5.out (fun j hj => by have := (HO.out j hj).2; omega) (fun j hj => by
      have hw := HWs.out
      rcases hj with h | h
      · have := HlF.out j h; omega
      · have := HBn.out; omega) hbk
    have HPush := Lib.hid hpush
    clear hpush
    have HRd := Lib.hid hrd
    have HBk := Lib.hid hbk
    have HOw := Lib.hid how
    clear hrd hbk how
    gi_wp2_with (gi_at_builtin; go_loud (refine wpListIn_append_any (by rfl) _ _ 30 (by rfl) 24 2 16 keySlice (.slice q pre.length cc) pre.length (pre.flatMap kC) (by rfl) HOw.out _ 1 (kC (x1, (y1, y2))) (by rfl) HRd.out hkc hmx hby ?_; intro v' A2 hown hgrow hat; obtain ⟨q', cc', rfl⟩ := own_form1 hown; obtain ⟨s1, s2, s3⟩ := HPush.out _ A2 hgrow hown hat; have s4 : A2.cell? ⟨bn + 1, 0, none⟩ = some (.slice q pre.length cc) := (by simp [World.cell?, s1]); have s5 : A2.frozen? ⟨bn + 1, 0, none⟩ = false := (by simp [World.frozen?, s1]); have s6 := s2 _ _ k4 (by have := HBo1.out; dsimp only; omega); have HS3 := Lib.hid s3; clear s1 s2 s3 hown hgrow hat))
    all_goals obtain ⟨t1, t2, t3⟩ := HS3.out
    all_goals refine ⟨t3, t2.mono (fun j hj => hj), ?_⟩
    · rename_i he
      have he' : (pre.length : Int) + 1 = n := by simpa using he
      exact ⟨rfl, t1, by rw [List.length_append]; simp; omega⟩
    · rename_i he
      have he' : ¬ (pre.length : Int) + 1 = n := by simpa using he
      exact ⟨t1, by rw [List.length_append]; simp; omega⟩
  case done =>
    rintro D O A hD ⟨g1, g6⟩ hKd
    have HT := Lib.hid (show (itq S).flatMap kC = (leastS S n).flatMap keyC ∧ (itq S).length = (leastS S n).length from by
      have hlT : leastS S n = S := by
        unfold leastS
        rw [itq_length] at g6
        rw [if_neg (by omega), List.take_of_length_le (by omega)]
      rw [hlT]
      exact ⟨kC_itq S, itq_length⟩)
    have G1 := Lib.hid g1
    obtain ⟨v, g1, -⟩ := g1
    have k2 : A.cell? ⟨bn + 1, 0, none⟩ = some v := by simp [World.cell?, g1]
    have HKd := Lib.hid hKd
    clear g1 hKd
    gi_wp2_with fail
    exact hfin.out D A O _ v hD G1.out k2 HT.out HKd.out _ rfl rfl
  case stop =>
    rintro D c O pre A hD hpre ⟨rfl, g1, g6⟩ hKd
    have HT := Lib.hid (show pre.flatMap kC = (leastS S n).flatMap keyC ∧ pre.length = (leastS S n).length from by
      have hp := List.prefix_iff_eq_take.1 hpre
      have hlT : pre = itq (leastS S n) := by
        unfold leastS
        rw [if_neg (by omega), hp]
        unfold itq
        rw [List.map_take]
        congr 1
        omega
      rw [hlT]
      exact ⟨kC_itq _, itq_length⟩)
    have G1 := Lib.hid g1
    obtain ⟨v, g1, -⟩ := g1
    have k2 : A.cell? ⟨bn + 1, 0, none⟩ = some v := by simp [World.cell?, g1]
    have HKd := Lib.hid hKd
    clear g1 hKd
    gi_wp2_with fail
    exact hfin.out D A O _ v hD G1.out k2 HT.out HKd.out _ rfl rfl
theorem Q_least {w0 w : World} {qb : Nat} {S : List (It Int)} {R : Ast} (h : On w0 w (sep (quA qb S) R)) (hs : Sorted ltI S) (hl : S.length < 900000) (n : Int) :
    Calls Try.prog 29 #[.pointer (some ⟨qb, 0, none⟩), .int .i64 n] w fun e w' => ∃ v, e = .returned v ∧ On w0 w' (sep (keysA v (leastS S n)) (sep (quA qb S) R)) := by
  by_cases hn : n < 1
  · exact Q_least_no h n hn
  · exact Q_least_yes h hs hl n (by omega)
end Go.Proofs.Ytkjpkhpiojahkaa
