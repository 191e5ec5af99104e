/-
  Walks: chain.Behind.
-/
import Derived.Test.YtmbdolmkldbjcaaW12
namespace Go.Proofs.Ytmbdolmkldbjcaa
open Go.RowKit Go.Shelf
attribute [local go_sem] Oper.semAt_some

theorem chainL_nodup {zs : List Int} : ∀ (n : Nat) (q : Int), nxts zs n q = -1 → (chainL zs n q).Nodup := by
  intro n
  induction n with
  | zero => intro q _; simp [chainL]
  | succ n ih =>
    intro q h
    rw [chainL]
    split
    · simp
    · rename_i hq
      rw [nxts_succ'] at h
      refine List.nodup_cons.2 ⟨fun hm => ?_, ih _ h⟩
      obtain ⟨k, _, h2, _⟩ := (mem_chainL n (nxt zs q) q).1 hm
      rw [← nxts_succ'] at h2
      have h3 : nxts zs (0 + (k + 1)) q = nxts zs 0 q := by rw [Nat.zero_add, h2]; rfl
      rw [← nxts_succ'] at h
      exact ring_again (m := 0) (d := k + 1) (by omega) h3 hq (n + 1) h

/-- of the first n threads, those whose chains have i -/
def behindN (zs : List Int) (i : Int) (n : Nat) : List Int := (List.range n).filterMap fun (k : Nat) => if i ∈ chain zs (k : Int) then some (k : Int) else none
theorem behindN_succ (zs : List Int) (i : Int) (n : Nat) : behindN zs i (n + 1) = behindN zs i n ++ if i ∈ chain zs (n : Int) then [(n : Int)] else [] := by
  unfold behindN
  rw [List.range_succ, List.filterMap_append]
  split <;> rename_i h <;> simp only [List.filterMap_cons, h, if_true, if_false, List.filterMap_nil]
theorem behindN_length (zs : List Int) (i : Int) (n : Nat) : (behindN zs i n).length ≤ n := by
  have := List.length_filterMap_le (fun k : Nat => if i ∈ chain zs (k : Int) then some (k : Int) else none) (List.range n)
  simpa [behindN] using this

def mk (D : Nat) : Deferred := { target := .collected D, args := #[] }

theorem leaves_marks {F : Fence} {n : Nat} {P : Program} {fn : Func} {tmps : Array Value} {R : Ending → World → Prop} (B : Nat) : ∀ (Ds : List Nat) (W : World), Ds.Nodup →
    (∀ D ∈ Ds, W.heap[D]? = some (.deferred (some [])) ∧ B ≤ D) →
    (∀ W', Mv none' B W W' → ∃ v, (results fn tmps).run P W' = .ok v W' ∧ R (.returned v) W') → LeavesInM F n P fn tmps R (Ds.map mk) .returning W := by
  intro Ds
  induction Ds with
  | nil =>
    intro W _ _ h
    exact h W ((Mod.refl none' W).mv B)
  | cons D Ds ih =>
    intro W hnd hD h
    rw [List.nodup_cons] at hnd
    obtain ⟨hD1, hD2⟩ := hD D (by simp)
    refine ⟨by simp, .inl ⟨D, _, rfl, run_takeDeferred hD1, ?_⟩⟩
    have hmv : Mv none' B W (W.putObj D (.deferred none)) := Mv.putObj W D _ _ hD1 rfl hD2
    refine ih _ hnd.2 (fun E hE => ?_) (fun W' hW' => h W' (hmv.trans hW'))
    have := hD E (by simp [hE])
    refine ⟨?_, this.2⟩
    rw [World.putObj_heap_other (fun e => hnd.1 (by rw [← e]; exact hE))]
    exact this.1

theorem ownsRow_obj {w w' : World} {B : Nat} {e : TypeId} {size n : Nat} {v : Value} {xs : List Value} (h : w.ownsRow B e size v n xs)
    (hk : ∀ j o, v.ownBlock = some j → w.heap[j]? = some o → ctl o = false → w'.heap[j]? = some o) : w'.ownsRow B e size v n xs := by
  refine ⟨h.1, ?_⟩
  rcases h.2 with hn | ⟨g, cap, cur, rfl, hb, hg, rest⟩
  · exact .inl hn
  · exact .inr ⟨g, cap, cur, rfl, hb, hk g _ rfl hg rfl, rest⟩
theorem ownsRow_mv {w w' : World} {B C : Nat} {e : TypeId} {size n : Nat} {v : Value} {xs : List Value} (h : w.ownsRow B e size v n xs) (hm : Mv none' C w w') : w'.ownsRow B e size v n xs :=
  ownsRow_obj h fun _ _ _ ho hc => hm.obj ho hc fun h => h
theorem own_ctl {w : World} {B : Nat} {e : TypeId} {size n : Nat} {v : Value} {xs : List Value} (h : w.ownsRow B e size v n xs) {j : Nat} (hj : v.ownBlock = some j) {o : Obj} (ho : w.heap[j]? = some o) : ctl o = false := by
  rcases h.2 with ⟨rfl, _⟩ | ⟨g, cap, cur, rfl, _, hg, _⟩
  · cases hj
  · simp only [Value.ownBlock, Option.some.injEq] at hj
    subst hj
    rw [hg] at ho
    cases ho
    rfl

/-- an append whose run is known -/
theorem wpListIn_append_run {F : Fence} {n : Nat} {P : Program} {w w' : World} {ops : Array Oper} {rest : List Oper} {o : Oper} {a : Act} {Q : Exit → Act → World → Prop}
    (hg : o.guard = none) (s x : Operand) (t : TypeId) (hop : o.op = Op.call { callee := Callee.builtin Builtin.append, args := #[s, x], argTypes := #[t, t] })
    (v xv v' : Value) (hs : a.eval s = v) (hx : a.eval x = xv) (hrun : (Builtin.append_ #[t, t] o.type #[v, xv]).run P w = .ok v' w')
    (h : wpListIn F n P ops Q rest (a.put o.dst v') w') : wpListIn F n P ops Q (o :: rest) a w := by
  refine wpListIn_plain hg fun K hK => ⟨?_, ?_⟩
  · simp [Oper.about, hop, resolve, Target.leads, Sem.run_pure]
  · rw [Oper.semAt_plain F _ _ (by rw [hop]; intro c hc'; cases hc')]
    simp [execOp, hop, resolve, invoke, builtin, hs, hx, hrun, Result.andThen]
    exact hK _ _ h

set_option maxRecDepth 100000 in
set_option maxHeartbeats 4000000 in
theorem Behind_ok (a : Option Addr) (cap : Nat) (zs : List Int) (i : Int) (w : World) (hc : IntsAt w a zs) (he : err zs = 0) (hi : 0 ≤ i ∧ i < zs.length) :
    Calls Try.prog 21 #[.slice a zs.length cap, .int .i64 i] w fun e w' => ∃ v, e = .returned v ∧ w'.ownsRow (w.heap.size + 3) 3 1 v (behindN zs i zs.length).length (vals (behindN zs i zs.length)) ∧ Below w.heap.size w w' := by
  obtain ⟨h64, hg, hrr⟩ := err_ok he
  obtain ⟨i0, hi0, hz0, hz1, hz2⟩ := info_parts Try.info3
  have hw0 : wrongOf zs [i] = 0 := wrongOf_fine he (by simpa using hi)
  obtain ⟨W2, hW2⟩ : ∃ W2, (w.alloc (.cells #[.int .i64 i] 3)).alloc (.cells #[.int .i64 i] 3) = W2 := ⟨_, rfl⟩
  have hm2 : Mod none' w W2 := by rw [← hW2]; exact ((Mod.refl _ w).alloc _).alloc _
  have hs2 : W2.heap.size = w.heap.size + 2 := by rw [← hW2]; simp
  have hcall : Calls Try.prog 25 #[.slice a zs.length cap, .slice (some ⟨w.heap.size + 1, 0, none⟩) 1 1] W2 fun e w' => e = .returned (.int .i64 0) ∧ W2 = w' := by
    have := wrong_any a (some ⟨w.heap.size + 1, 0, none⟩) cap 1 zs [i] W2 (by omega) (by simp) (hc.mod hm2 fun _ _ h => h) (fun k hlt => by
      simp at hlt
      subst hlt
      refine ⟨w.heap.size + 1, 0, rfl, by omega, ?_⟩
      rw [← hW2, World.cell?_alloc_at _ _ _ _ (by simp)]
      rfl)
    rw [hw0] at this
    exact this
  have b0 : W2.cell? ⟨w.heap.size, 0, none⟩ = some (.int .i64 i) := by
    rw [← hW2, World.cell?_alloc_past _ _ _ (by simp), World.cell?_alloc_at _ _ _ _ rfl]; rfl
  have HC := Lib.hid hcall
  have HS2 := Lib.hid hs2
  have hs2i : w.heap.size + 2 ≤ W2.heap.size := by omega
  have HRR := Lib.hid hrr
  have HE := Lib.hid he
  clear hcall hs2 hg hrr he hw0
  refine (callsIn_wide (n := 9)).1 ?_
  refine callsIn_of_wp_marks Try.func21 rfl trivial ?_ rfl
  simp only [Try.ntmps21, List.size_toArray, List.length_cons, List.length_nil, Nat.reduceAdd, Nat.reduceSub, Array.replicate_succ, Array.replicate_zero, List.push_toArray, List.append_toArray, List.nil_append, List.cons_append]
  gi_wp2_with (refine ⟨trivial, ?_⟩; gi_at_call 25; refine (callsIn_wide.2 HC.out).mono ?_; rintro e w' ⟨rfl, rfl⟩)
  obtain ⟨Bo, hBo⟩ : ∃ Bo, W2.heap.size = Bo := ⟨_, rfl⟩
  obtain ⟨W3, hW3⟩ : ∃ W3, W2.alloc (.cells #[.slice none 0 0] 22) = W3 := ⟨_, rfl⟩
  have hm3 : Mod none' w W3 := by rw [← hW3]; exact hm2.alloc _
  have hBo2 : Bo = w.heap.size + 2 := by rw [← hBo]; exact HS2.out
  have hs3 : W3.heap.size = w.heap.size + 3 := by rw [← hW3]; simp; exact HS2.out
  have d0 : W3.cell? ⟨w.heap.size, 0, none⟩ = some (.int .i64 i) := by
    rw [← hW3]; exact ((Mod.refl none' W2).alloc _).cell b0 (fun h => h)
  have d1 : W3.cell? ⟨Bo, 0, none⟩ = some (.slice none 0 0) := by rw [← hW3, World.cell?_alloc_at _ _ _ _ hBo.symm]; rfl
  have d2 : W3.frozen? ⟨Bo, 0, none⟩ = false := by rw [← hW3]; exact World.frozen?_alloc_at _ _ _ _ hBo.symm
  rw [hBo, hW3]
  have HBo := Lib.hid hBo2
  have hs3' : w.heap.size + 3 ≤ W3.heap.size := by omega
  clear hW3 hm2 b0 hBo hBo2 hs3 hs2i
  refine wpIn_loop_ghost_k (fun g act wr => ∃ (k : Nat) (Ds : List Nat) (v u6 u7 u16 u17 u18 u19 u20 u21 u22 u23 u24 u25 u26 u27 u28 u29 u30 : Value), act = { tmps := #[Value.slice a zs.length cap, .int .i64 i, undef, .pointer (some ⟨w.heap.size, 0, none⟩), .slice none 0 0, .pointer (some ⟨Bo, 0, none⟩), u6, u7, .slice a zs.length cap, .int .i64 i, .slice (some ⟨w.heap.size + 1, 0, none⟩) 1 1, .int .i64 0, .bool false, .slice a zs.length cap, .int .i64 zs.length, .int .i64 (k : Int), u16, u17, u18, u19, u20, u21, u22, u23, u24, u25, u26, u27, u28, u29, u30], defers := Ds.map mk } ∧ k + g = zs.length ∧
      (wr.cell? ⟨w.heap.size, 0, none⟩ = some (.int .i64 i) ∧ wr.cell? ⟨Bo, 0, none⟩ = some v ∧ wr.frozen? ⟨Bo, 0, none⟩ = false) ∧
      wr.ownsRow (w.heap.size + 3) 3 1 v (behindN zs i k).length (vals (behindN zs i k)) ∧ Mod none' w wr ∧ w.heap.size + 3 ≤ wr.heap.size ∧
      (Ds.Nodup ∧ ∀ D ∈ Ds, wr.heap[D]? = some (.deferred (some [])) ∧ w.heap.size ≤ D)) zs.length ?start ?round
  case start =>
    exact ⟨0, [], _, _, _, _, _, _, _, _, _, _, _, _, _, _, _, _, _, _, rfl, by omega, ⟨d0, d1, d2⟩, World.ownsRow_nil _ _ _ _, hm3, by omega, by simp, by simp⟩
  case round =>
    rintro gk act wr ⟨k, Ds, v, u6, u7, u16, u17, u18, u19, u20, u21, u22, u23, u24, u25, u26, u27, u28, u29, u30, rfl, hk, ⟨c0, c1, c2⟩, hown, hmr, hsr, hnd, hDs⟩ J K hJ hK
    have HJ := Lib.hid hJ
    have HOwn := Lib.hid hown
    have HM := Lib.hid hmr
    have HDs := Lib.hid hDs
    have HNd := Lib.hid hnd
    have HKg := Lib.hid hk
    have hk' : k ≤ zs.length := by omega
    clear hJ hown hmr hDs hnd hk
    by_cases hlt : k < zs.length
    · obtain ⟨Bk, hBk⟩ : ∃ Bk, wr.heap.size = Bk := ⟨_, rfl⟩
      obtain ⟨V, hV⟩ : ∃ V, (((wr.alloc (.cells #[.int .i64 (k : Int)] 3)).alloc (.cells #[.slice a zs.length cap] 22)).alloc (.cells #[.int .i64 (k : Int)] 3)) = V := ⟨_, rfl⟩
      have hmV : Mod none' wr V := by rw [← hV]; exact (((Mod.refl _ wr).alloc _).alloc _).alloc _
      have hsV : V.heap.size = Bk + 3 := by rw [← hV, ← hBk]; simp
      have e0 := hmV.cell c0 (fun h => h)
      have e1 := hmV.cell c1 (fun h => h)
      have e2 := (hmV.frozen c1 (fun h => h)).trans c2
      have ek : V.cell? ⟨Bk, 0, none⟩ = some (.int .i64 k) := by
        rw [← hV, World.cell?_alloc_past _ _ _ (by simp; omega), World.cell?_alloc_past _ _ _ (by simp; omega), World.cell?_alloc_at _ _ _ _ hBk.symm]; rfl
      have ea : V.cell? ⟨Bk + 1, 0, none⟩ = some (.slice a zs.length cap) := by
        rw [← hV, World.cell?_alloc_past _ _ _ (by simp; omega), World.cell?_alloc_at _ _ _ _ (by simp; omega)]; rfl
      have eb : V.cell? ⟨Bk + 1 + 1, 0, none⟩ = some (.int .i64 k) := by
        rw [← hV, World.cell?_alloc_at _ _ _ _ (by simp; omega)]; rfl
      have hmwV := HM.out.trans' hmV
      have hcV := hc.mod hmwV (fun _ _ h => h)
      have hownV := ownsRow_mv HOwn.out (hmV.mv 0)
      have hvlt : ∀ j, v.ownBlock = some j → w.heap.size + 3 ≤ j ∧ j < Bk := fun j hj => by have := HOwn.out.lt j hj; omega
      have hDV : ∀ D ∈ Ds, V.heap[D]? = some (.deferred (some [])) ∧ w.heap.size ≤ D ∧ D < Bk := fun D hD => by
        have h := HDs.out D hD
        have hlt := lt_of_some h.1
        exact ⟨hmV.block D _ h.1 (.inl rfl), h.2, by omega⟩
      have hkr : (0 : Int) ≤ (k : Int) ∧ (k : Int) < zs.length := by omega
      have hal : along zs (k : Int) = chain zs k := if_pos (wrongOf_fine HE.out (by simpa using hkr))
      have hit := Along1_iter 8 (Bk + 1) (Bk + 1 + 1) a cap zs k V (by omega) ea eb hcV
      rw [hal] at hit
      have hnd := chainL_nodup zs.length (k : Int) (ringF (HRR.out k hlt))
      have HIt := Lib.hid hit
      have HNdC := Lib.hid (show (chain zs (k : Int)).Nodup from hnd)
      have HBk := Lib.hid hBk
      have HsV := Lib.hid hsV
      have hbl := behindN_length zs i k
      have hsVi : Bk + 3 ≤ V.heap.size := by omega
      have hwBk : w.heap.size + 3 ≤ Bk := by omega
      have HOwnV := Lib.hid hownV
      have HmwV := Lib.hid hmwV
      have HDV := Lib.hid hDV
      have HVlt := Lib.hid hvlt
      clear hmV hsV hal hit hnd hownV hmwV hDV hvlt ea eb
      gi_wp2_with fail
      refine ⟨trivial, ?_⟩
      refine (callsIn_wide.2 (Along_any _ _ _ _ _)).mono ?_
      rintro e w' ⟨rfl, rfl⟩
      rw [hV]
      simp only [World.size_alloc, hBk]
      clear hV hBk
      gi_wp2_with fail
      refine wpIn_range rfl (by omega) (gf := 29) (lb := #[.pointer (some ⟨Bk + 1, 0, none⟩), .pointer (some ⟨Bk + 1 + 1, 0, none⟩)]) rfl trivial (enters_of Try.func29 (by kernel_rfl) rfl)
        HIt.out (Keeps.refl _ _) (fun _ => rfl)
        (fun pre A => ∃ v', (A.cell? ⟨w.heap.size, 0, none⟩ = some (.int .i64 i) ∧ A.cell? ⟨Bo, 0, none⟩ = some v' ∧ A.frozen? ⟨Bo, 0, none⟩ = false ∧ A.cell? ⟨Bk, 0, none⟩ = some (.int .i64 k)) ∧
          A.ownsRow (w.heap.size + 3) 3 1 v' (behindN zs i k ++ if i ∈ pre then [(k : Int)] else []).length (vals (behindN zs i k ++ if i ∈ pre then [(k : Int)] else [])) ∧
          (∀ j, v'.ownBlock = some j → j < Bk ∨ Bk + 3 ≤ j) ∧ Mod none' w A ∧ (∀ D ∈ Ds, A.heap[D]? = some (.deferred (some []))))
        (fun _ _ _ => False)
        (fun pre A A' ⟨v', ⟨h1, h2, h3, h4⟩, h5, h6, h7, h8⟩ hm' => ⟨v', ⟨hm'.cell h1 (fun h => h), hm'.cell h2 (fun h => h), (hm'.frozen h2 (fun h => h)).trans h3, hm'.cell h4 (fun h => h)⟩, ownsRow_mv h5 hm', h6,
          h7.then_mv hm' (fun _ h _ => h) (by have := HsV.out; omega), fun D hD => hm'.block D _ (h8 D hD) (by have h9 := (HDV.out D hD).2.2; have := HsV.out; simp only [ctl, if_true]; omega)⟩)
        (fun _ _ _ _ h _ => h.elim)
        ⟨v, ⟨e0, e1, e2, ek⟩, by simpa using HOwnV.out, fun j hj => .inl (HVlt.out j hj).2, HmwV.out, fun D hD => (HDV.out D hD).1⟩ ?round ?done ?stop
      case round =>
        rintro l pre x A hlA _ ⟨v', ⟨h1, h2, h3, h4⟩, h5, h6, h7, h8⟩ hpre
        gi_wp2_with fail
        refine ⟨Ctl.refl _ _, Keeps.refl _ _, fun Wb hmb ⟨rr, hrr⟩ => ?_⟩
        have hlW := lt_of_some hrr
        have hWb3 : Bk + 3 ≤ Wb.heap.size := by have := HsV.out; omega
        clear hrr
        have k1 := hmb.cell h1 (fun h => h)
        have k2 := hmb.cell h2 (fun h => h)
        have k3 := (hmb.frozen h2 (fun h => h)).trans h3
        have k4 := hmb.cell h4 (fun h => h)
        have k5 := ownsRow_mv h5 hmb
        have k7 := h7.then_mv hmb (fun _ h _ => h) (by have := HsV.out; omega)
        have k8 : ∀ D ∈ Ds, Wb.heap[D]? = some (.deferred (some [])) := fun D hD => hmb.block D _ (h8 D hD) (by have h9 := (HDV.out D hD).2.2; have := HsV.out; simp only [ctl, if_true]; omega)
        have hnotin : x ∉ pre := by
          have h9 := hpre.sublist.nodup HNdC.out
          rw [List.nodup_append] at h9
          intro hx
          exact h9.2.2 x hx x (by simp) rfl
        have HNot := Lib.hid hnotin
        have K5 := Lib.hid k5
        have K6 := Lib.hid h6
        have K7 := Lib.hid k7
        have K8 := Lib.hid k8
        clear h1 h2 h3 h4 h5 h6 h7 h8 k5 k7 k8 hnotin
        by_cases hx : x = i
        · have hxb : (x == i) = true := by simp [hx]
          have HX := Lib.hid hx
          have hnp : (if i ∈ pre then [(k : Int)] else []) = [] := if_neg (by rw [← hx]; exact HNot.out)
          have hyp : (if i ∈ pre ++ [x] then [(k : Int)] else []) = [(k : Int)] := if_pos (by rw [← hx]; simp)
          have hown0 := K5.out
          rw [hnp, List.append_nil] at hown0
          have hlt2 := hown0.lt
          obtain ⟨g, cp, w1, hrun, r1, r2, r3, r4⟩ := run_append_lies (P := Try.prog) (Wb.alloc (.cells #[.int .i64 (k : Int)] 3)) 22 22 (w.heap.size + 3) 3 i0 (.int .i64 0) 1 8 Try.underlying22 hi0 hz0 hz1 hz2 rfl (by decide) v' _ _ (hown0.alloc _)
            ⟨Wb.heap.size, 0, none⟩ 1 1 [.int .i64 (k : Int)] rfl (cell_one_new _ _ _) (by simp [Value.oneCell']) (by omega) (by unfold maxLen; omega) (by omega) (by simp; omega) _ rfl
          have hctl : ∀ j o, v'.ownBlock = some j → (Wb.alloc (.cells #[.int .i64 (k : Int)] 3)).heap[j]? = some o → ctl o = false := fun j o hj ho => own_ctl (hown0.alloc _) hj ho
          have hmA : Mod (fun j => v'.ownBlock = some j) Wb w1 := (((Mod.refl (fun j => v'.ownBlock = some j) Wb).alloc _)).trans'
            ((Mod.refl (fun j => v'.ownBlock = some j) _).grown r2 (fun j hj _ => ⟨hj, fun o ho => hctl j o hj ho⟩))
          have hge : ∀ j, v'.ownBlock = some j → w.heap.size + 3 ≤ j := fun j hj => (hlt2 j hj).1
          have q0 := hmA.cell k1 (fun h => by have := hge _ h; dsimp only at this; omega)
          have q1 := hmA.cell k2 (fun h => by have := hge _ h; have := HBo.out; dsimp only at *; omega)
          have q2 := (hmA.frozen k2 (fun h => by have := hge _ h; have := HBo.out; dsimp only at *; omega)).trans k3
          have q3 := hmA.cell k4 (fun h => by have := K6.out _ h; dsimp only at this; omega)
          have hset : Mod (fun j => j = Bo) w1 (w1.setCell ⟨Bo, 0, none⟩ (.slice (some ⟨g, 0, none⟩) ((behindN zs i k).length + 1) cp)) := (Mod.refl (fun j => j = Bo) w1).setCell (p := ⟨Bo, 0, none⟩) (fun _ => rfl) _
          have hall : Mod (fun j => v'.ownBlock = some j ∨ j = Bo) Wb (w1.setCell ⟨Bo, 0, none⟩ (.slice (some ⟨g, 0, none⟩) ((behindN zs i k).length + 1) cp)) :=
            (hmA.mono (fun _ h _ => .inl h)).trans hset (fun _ h _ => .inr h)
          have hgg : g ≠ Bo := by
            have := HBo.out
            rcases r3 with h | h
            · have := hge _ h; omega
            · simp at h; omega
          have R1 := Lib.hid r1
          have R3 := Lib.hid r3
          have HAll := Lib.hid hall
          have HYp := Lib.hid hyp
          have HGe := Lib.hid hge
          have HGg := Lib.hid hgg
          have HRun := Lib.hid hrun
          clear r1 r2 r3 r4 hall hyp hge hgg hset hmA hctl hx hnp hown0 hlt2 hrun
          gi_wp2_with (gi_at_builtin; refine wpListIn_append_run rfl _ _ 22 rfl _ _ _ rfl rfl HRun.out ?_)
          refine ⟨HAll.out.ctl _, HAll.out.keeps ?_, _, ⟨?_, World.cell?_setCell_same' _ _ _ (by rw [q1]; rfl), ?_, ?_⟩, ?_, ?_, K7.out.trans HAll.out ?_, fun D hD => HAll.out.block D _ (K8.out D hD) (.inl rfl)⟩
          · have := HBo.out
            rintro j (h | h | h) hj (h2 | h2)
            · have := K6.out _ h2; omega
            · omega
            · have := K6.out _ h2; omega
            · omega
            · have := HGe.out _ h2; have := hc.lt h; omega
            · have := hc.lt h; omega
          · have := HBo.out
            rw [World.cell?_setCell_other _ _ _ _ (by first | (simp; done) | (simp; omega))]; exact q0
          · rw [World.frozen?_setCell]; exact q2
          · have := HBo.out
            rw [World.cell?_setCell_other _ _ _ _ (by first | (simp; done) | (simp; omega))]; exact q3
          · rw [HYp.out]
            have h9 := R1.out
            have h10 : vals (behindN zs i k ++ [(k : Int)]) = vals (behindN zs i k) ++ [.int .i64 (k : Int)] := by simp [vals]
            rw [h10]
            show World.ownsRow _ _ _ _ _ ((behindN zs i k ++ [(k : Int)]).length) _
            rw [List.length_append]
            exact ownsRow_obj h9 fun j o hj ho _ => by
              simp only [Value.ownBlock, Option.some.injEq] at hj
              subst hj
              exact setCell_ctl ho (.inr HGg.out)
          · intro j hj
            simp only [Value.ownBlock, Option.some.injEq] at hj
            subst hj
            rcases R3.out with h | h
            · exact K6.out _ h
            · simp at h
              right
              omega
          · intro j h1 h2
            have := HBo.out
            rcases h1 with h1 | h1
            · have := HGe.out _ h1; omega
            · omega
        · have hxb : (x == i) = false := by simp [hx]
          have hsame : (if i ∈ pre ++ [x] then [(k : Int)] else []) = if i ∈ pre then [(k : Int)] else [] := by
            have : i ∈ pre ++ [x] ↔ i ∈ pre := by simp [Ne.symm hx]
            simp only [this]
          have HSame := Lib.hid hsame
          clear hx hsame
          gi_wp2_with fail
          exact ⟨Ctl.refl _ _, Keeps.refl _ _, v', ⟨k1, k2, k3, k4⟩, by rw [HSame.out]; exact K5.out, K6.out, K7.out, K8.out⟩
      case done =>
        rintro D A hD ⟨v', ⟨h1, h2, h3, h4⟩, h5, h6, h7, h8⟩ hK
        have H5 := Lib.hid h5
        have H7 := Lib.hid h7
        have H8 := Lib.hid h8
        have HKD := Lib.hid hK
        clear h5 h6 h7 h8 hK
        gi_wp2_with fail
        refine Handed.intro (zs.length - (k + 1)) (by have := HKg.out; omega) (HJ.out _ _ _ ⟨k + 1, D :: Ds, v', _, _, _, _, _, _, _, _, _, _, _, _, _, _, _, _, _, rfl, by omega, ⟨h1, h2, h3⟩, ?_, H7.out, ?_, ?_, ?_⟩)
        · rw [behindN_succ]; exact H5.out
        · have := H7.out.size
          have := HsV.out
          have := World.block_lt_of_cell? A _ h4
          simp at this
          omega
        · refine List.nodup_cons.2 ⟨fun h => ?_, HNd.out⟩
          have := (HDV.out D h).2.2
          have := HsV.out
          omega
        · intro E hE
          rcases List.mem_cons.1 hE with rfl | hE
          · exact ⟨HKD.out, by omega⟩
          · exact ⟨H8.out E hE, (HDV.out E hE).2.1⟩
      case stop =>
        rintro D c pre A _ _ h _
        exact h.elim
    · have hkz : k = zs.length := by omega
      have HKZ := Lib.hid hkz
      clear hkz
      gi_wp2
      refine leaves_marks w.heap.size Ds wr HNd.out HDs.out fun W' hW' => ⟨v, by simp [results, Try.f21, go_sem], v, rfl, ?_, (HM.out.then_mv hW' (fun _ h _ => h) (Nat.le_refl _)).to_below⟩
      rw [← HKZ.out]
      exact ownsRow_mv HOwn.out hW'
end Go.Proofs.Ytmbdolmkldbjcaa
