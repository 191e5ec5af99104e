/-
  Walk: the law HeapDrops.
-/
import Derived.Test.YtecfenoidcolfaaCA
import Derived.Test.YtecfenoidcolfaaL1
namespace Go.Proofs.Ytecfenoidcolfaa
set_option linter.unusedVariables false
open Go.RowKit Hp
attribute [local go_sem] Oper.semAt_some

/-- what is left when the first i, going round from f on, were dropped -/
def Rest (zs : List Int) (f : Nat) : Nat → List (It Int)
  | 0 => Srt zs
  | i + 1 => (Rest zs f i).erase (itm zs ((f + i) % zs.length))
theorem Rest_sub (zs : List Int) (f : Nat) : ∀ i, (Rest zs f i).Sublist (Srt zs)
  | 0 => List.Sublist.refl _
  | i + 1 => List.erase_sublist.trans (Rest_sub zs f i)
theorem Rest_sorted (zs : List Int) (f i : Nat) : Sorted ltI (Rest zs f i) := (Srt_sorted zs).sublist (Rest_sub zs f i)
theorem Srt_distinct (zs : List Int) : (Srt zs).Pairwise fun a b => a.1 ≠ b.1 := distinct_perm (Srt_perm zs).symm (La_distinct _)
theorem Rest_distinct (zs : List Int) (f i : Nat) : (Rest zs f i).Pairwise fun a b => a.1 ≠ b.1 := (Srt_distinct zs).sublist (Rest_sub zs f i)
theorem mem_Srt {zs : List Int} {x : It Int} (h : x ∈ Srt zs) : ∃ j, j < zs.length ∧ x = itm zs j := mem_La.1 ((Srt_perm zs).mem_iff.1 h)
theorem itm_mem {zs : List Int} {j : Nat} (h : j < zs.length) : itm zs j ∈ Srt zs := (Srt_perm zs).mem_iff.2 (mem_La.2 ⟨j, h, rfl⟩)
theorem Rest_mem {zs : List Int} {f : Nat} : ∀ {i k : Nat}, i ≤ k → k < zs.length → itm zs ((f + k) % zs.length) ∈ Rest zs f i
  | 0, k, _, hk => itm_mem (Nat.mod_lt _ (by omega))
  | i + 1, k, hik, hk => by
    rw [Rest]
    refine (List.mem_erase_of_ne fun e => ?_).2 (Rest_mem (by omega) hk)
    have := mod_inj (f := f) (j := k) (k := i) hk (by omega) (Int.ofNat.inj (congrArg Prod.fst e))
    omega
theorem Rest_len {zs : List Int} {f : Nat} : ∀ {i : Nat}, i ≤ zs.length → (Rest zs f i).length = zs.length - i
  | 0, _ => Srt_length zs
  | i + 1, h => by
    rw [Rest, List.length_erase_of_mem (Rest_mem (Nat.le_refl _) h), Rest_len (by omega)]
    omega
theorem erase_gone {l : List (It Int)} (hd : l.Pairwise fun a b => a.1 ≠ b.1) {y : It Int} (hy : y ∈ l) : ∀ x ∈ l.erase y, x.1 ≠ y.1 := by
  have hp := List.perm_cons_erase hy
  have := distinct_perm hp hd
  intro x hx
  exact Ne.symm ((List.pairwise_cons.1 this).1 x hx)
theorem Rest_at {zs : List Int} {f i k : Nat} {x : It Int} (h : (Rest zs f i)[k]? = some x) : ∃ j, j < zs.length ∧ x = itm zs j := by
  obtain ⟨hk, he⟩ := List.getElem?_eq_some_iff.1 h
  exact mem_Srt ((Rest_sub zs f i).subset (by rw [← he]; exact List.getElem_mem hk))

theorem pick_shape {S : (Nat → Value) → Act} {a : Act} {R : Prop} (h : a = S (fun k => a.tmps.toList.getD k undef)) (hr : R) : ∃ g, a = S g ∧ R := ⟨_, h, hr⟩

/-- the key of the one that was gone through last -/
def lastP (l : List (It Int)) : Array Value := match l.getLast? with
  | none => #[.int .i64 0, .int .i64 0]
  | some x => #[.int .i64 x.2, .int .i64 x.1]
theorem lastP_snoc (l : List (It Int)) (x : It Int) : lastP (l ++ [x]) = #[.int .i64 x.2, .int .i64 x.1] := by simp [lastP]

theorem heap_setCell_at {w : World} {b k : Nat} {cs : Array Value} {t : Nat} {fr : Nat × Nat} {v : Value} (h : w.heap[b]? = some (.cells cs t fr)) : (w.setCell ⟨b, k, none⟩ v).heap[b]? = some (.cells (cs.setIfInBounds k v) t fr) := by
  simp [World.setCell, Array.getElem?_modify, h]
theorem heap_setCell_other' {w : World} {p : Addr} {k : Nat} {o : Obj} {v : Value} (h : w.heap[k]? = some o) (hk : k ≠ p.block) : (w.setCell p v).heap[k]? = some o := by
  rw [Below.heap_setCell _ _ _ _ hk]; exact h

/-- blocks of book-keeping that wait -/
def markA (B : Nat) (Ds : List Nat) : Ast where
  holds w F := (∀ D ∈ Ds, w.heap[D]? = some (.deferred (some [])) ∧ B ≤ D) ∧ Ds.Nodup ∧ ∀ j, ¬ F j
  stable := fun ⟨h1, h2, h3⟩ hm _ => ⟨fun D hD => ⟨hm.block D _ (h1 D hD).1 (.inl rfl), (h1 D hD).2⟩, h2, h3⟩
  lt := fun ⟨_, _, h⟩ hj => (h _ hj).elim
theorem On.emp' {w0 w : World} {A : Ast} (B : Nat) (h : On w0 w A) : On w0 w (sep A (markA B [])) := by
  obtain ⟨F, h1, h2, h3⟩ := h
  exact ⟨F, ⟨F, fun _ => False, h1, ⟨by simp, by simp, fun _ h => h⟩, fun _ _ h => h, fun j => by simp⟩, h2, h3⟩

def mk (D : Nat) : Deferred := { target := .collected D, args := #[] }
theorem leaves_marks {F : Fence} {n : Nat} {P : Program} {fn : Func} {tmps : Array Value} {R : Ending → World → Prop} (B : Nat) : ∀ (Ds : List Nat) (W : World), Ds.Nodup →
    (∀ D ∈ Ds, W.heap[D]? = some (.deferred (some [])) ∧ B ≤ D) →
    (∀ W', Mv none' B W W' → ∃ v, (results fn tmps).run P W' = .ok v W' ∧ R (.returned v) W') → LeavesInM F n P fn tmps R (Ds.map mk) .returning W := by
  intro Ds
  induction Ds with
  | nil =>
    intro W _ _ h
    exact h W ((Mod.refl none' W).mv B)
  | cons D Ds ih =>
    intro W hnd hD h
    rw [List.nodup_cons] at hnd
    obtain ⟨hD1, hD2⟩ := hD D (by simp)
    refine ⟨by simp, .inl ⟨D, _, rfl, run_takeDeferred hD1, ?_⟩⟩
    have hmv : Mv none' B W (W.putObj D (.deferred none)) := Mv.putObj W D _ _ hD1 rfl hD2
    refine ih _ hnd.2 (fun E hE => ?_) (fun W' hW' => h W' (hmv.trans hW'))
    have := hD E (by simp [hE])
    refine ⟨?_, this.2⟩
    rw [World.putObj_heap_other (fun e => hnd.1 (by rw [← e]; exact hE))]
    exact this.1

theorem world_setCell_same {w : World} {p : Addr} {u : Value} (h : w.cell? p = some u) (v : Value) : (w.setCell p v).cell? p = some v := World.cell?_setCell_same' _ _ _ (by rw [h]; rfl)

set_option maxRecDepth 100000 in
set_option maxHeartbeats 4000000 in
theorem drops_few (a : Option Addr) (cap : Nat) (zs : List Int) (fr : Int) (w : World) (hl : zs.length = 0 ∨ 60 < zs.length) :
    Calls Try.prog 5 #[.slice a zs.length cap, .int .i64 fr] w fun e w' => e = .returned (.bool true) ∧ Below w.heap.size w w' := by
  obtain ⟨W, hW⟩ : ∃ W, ((w.alloc (.cells #[.slice a zs.length cap] 22)).alloc (.cells #[.bool false] 4)) = W := ⟨_, rfl⟩
  have hbW : Below w.heap.size w W := by rw [← hW]; exact ((Below.refl _ w).alloc (Nat.le_refl _) _).alloc (by simp) _
  have c2 : W.cell? ⟨w.heap.size, 0, none⟩ = some (.slice a zs.length cap) := by rw [← hW, World.cell?_alloc_past _ _ _ (by simp), World.cell?_alloc_at _ _ _ _ rfl]; rfl
  have hs : W.heap.size = w.heap.size + 2 := by rw [← hW]; simp
  have hlt : w.heap.size < W.heap.size := by omega
  have HN := Lib.hid (H_new (On.emp W))
  have c4 : W.cell? ⟨w.heap.size + 1, 0, none⟩ = some (.bool false) := by rw [← hW, World.cell?_alloc_at _ _ _ _ (by simp)]; rfl
  have f4 : W.frozen? ⟨w.heap.size + 1, 0, none⟩ = false := by rw [← hW]; exact World.frozen?_alloc_at _ _ _ _ (by simp)
  go_enter Try.func5, Try.ntmps5
  go_wp2_with fail
  refine HN.out.mono ?_
  rintro e w2 ⟨hb, rfl, h2⟩
  have hb2 := h2.to_below
  have HA := Lib.hid (awake_ok w2)
  have d2 := zatB c2 hb2
  have HB := Lib.hid hb2
  clear h2 hb2
  rcases hl with hl | hl
  · have hlI : (zs.length : Int) = 0 := by omega
    have hlI2 : ¬ (60 : Int) < (zs.length : Int) := by omega
    go_wp2_with fail
    refine HA.out.mono ?_
    rintro e w3 ⟨rfl, hb3⟩
    have hb4 := HB.out.trans (hb3.mono HB.out.size)
    have g4 := zatB c4 hb4
    have gf := (hb4.frozen (p := ⟨w.heap.size + 1, 0, none⟩) (by show w.heap.size + 1 < W.heap.size; omega)).trans f4
    have HB4 := Lib.hid hb4
    clear hb3 hb4
    go_wp2_with fail
    have h4 := world_setCell_same g4 (.bool true)
    refine bodyPost_ret (v := .bool true) (by simp [results, Try.f5, go_sem, h4]) rfl ?_
    exact ⟨rfl, hbW.trans ((HB4.out.mono hbW.size).setCell (p := ⟨w.heap.size + 1, 0, none⟩) (Nat.le_succ _) _)⟩
  · have hlI2 : (60 : Int) < (zs.length : Int) := by omega
    go_wp2_with fail
    refine HA.out.mono ?_
    rintro e w3 ⟨rfl, hb3⟩
    have hb4 := HB.out.trans (hb3.mono HB.out.size)
    have g4 := zatB c4 hb4
    have gf := (hb4.frozen (p := ⟨w.heap.size + 1, 0, none⟩) (by show w.heap.size + 1 < W.heap.size; omega)).trans f4
    have HB4 := Lib.hid hb4
    clear hb3 hb4
    go_wp2_with fail
    have h4 := world_setCell_same g4 (.bool true)
    refine bodyPost_ret (v := .bool true) (by simp [results, Try.f5, go_sem, h4]) rfl ?_
    exact ⟨rfl, hbW.trans ((HB4.out.mono hbW.size).setCell (p := ⟨w.heap.size + 1, 0, none⟩) (Nat.le_succ _) _)⟩

theorem H_drop {w0 w : World} {hb : Nat} {M : List (It Int)} {R : Ast} (h : On w0 w (sep (H hb M) R)) {id k : Int} (hm : (id, k) ∈ M) (hM : M.length < 1000000) :
    Calls Try.prog 30 #[.pointer (some ⟨hb, 0, none⟩), .int .i64 id] w fun e w' => e = .returned (.tuple #[.int .i64 k, .int .i64 0]) ∧ On w0 w' (sep (H hb (M.erase (id, k))) R) :=
  h.call1 (B := H hb (M.erase (id, k))) fun _ hF => Drop_some lessI hF hm hM

set_option maxRecDepth 100000 in
set_option maxHeartbeats 8000000 in
theorem drops_ok (a : Option Addr) (cap : Nat) (zs : List Int) (fr : Int) (hfr : (Lit.int .i64 fr).wf = true) (w : World) (hc : IntsAt w a zs) (hl0 : zs.length ≠ 0) (hl1 : zs.length ≤ 60) :
    Calls Try.prog 5 #[.slice a zs.length cap, .int .i64 fr] w fun e w' => e = .returned (.bool true) ∧ Below w.heap.size w w' := by
  obtain ⟨n, hn⟩ : ∃ n, zs.length = n := ⟨_, rfl⟩
  have hfr' : -9223372036854775808 ≤ fr ∧ fr ≤ 9223372036854775807 := by
    simp [Lit.wf, IntKind.min, IntKind.max, IntKind.signed, IntKind.bits] at hfr
    omega
  have hm1 : - (n : Int) < fr.tmod n ∧ fr.tmod n < n := by
    have h1 := Int.tmod_lt_of_pos fr (show (0 : Int) < n by omega)
    have h2 := Int.lt_tmod_of_pos fr (show (0 : Int) < n by omega)
    omega
  obtain ⟨f0, hf0, hf1⟩ : ∃ f0 : Nat, (fr.tmod n + n).tmod n = (f0 : Int) ∧ f0 < n := by
    have h1 := Int.tmod_nonneg (n : Int) (show 0 ≤ fr.tmod n + n by omega)
    have h2 := Int.tmod_lt_of_pos (fr.tmod n + n) (show (0 : Int) < n by omega)
    exact ⟨((fr.tmod n + n).tmod n).toNat, by omega, by omega⟩
  obtain ⟨kb, ko, rfl, hkb, hkc⟩ := hc.row hl0
  obtain ⟨W, hW⟩ : ∃ W, ((w.alloc (.cells #[.slice (some ⟨kb, ko, none⟩) zs.length cap] 22)).alloc (.cells #[.bool false] 4)) = W := ⟨_, rfl⟩
  rw [hn] at hkc hW
  have hbW : Below w.heap.size w W := by rw [← hW]; exact ((Below.refl _ w).alloc (Nat.le_refl _) _).alloc (by simp) _
  have hs : W.heap.size = w.heap.size + 2 := by rw [← hW]; simp
  have hlt : w.heap.size < W.heap.size := by omega
  have hkeys : ∀ A, Below W.heap.size W A → A.cell? ⟨w.heap.size, 0, none⟩ = some (.slice (some ⟨kb, ko, none⟩) n cap) ∧ (∀ k, k < n → A.cell? ⟨kb, ko + k, none⟩ = some (.int .i64 (zs[k]?.getD 0))) := fun A hA => by
    have c2 : W.cell? ⟨w.heap.size, 0, none⟩ = some (.slice (some ⟨kb, ko, none⟩) n cap) := by rw [← hW, World.cell?_alloc_past _ _ _ (by simp), World.cell?_alloc_at _ _ _ _ rfl]; rfl
    exact ⟨zatB c2 hA, fun k hk => zatB (zatB (hkc k hk) hbW) hA⟩
  have hres : ∀ A, Below W.heap.size W A → A.cell? ⟨w.heap.size + 1, 0, none⟩ = some (.bool false) ∧ A.frozen? ⟨w.heap.size + 1, 0, none⟩ = false := fun A hA => by
    have c4 : W.cell? ⟨w.heap.size + 1, 0, none⟩ = some (.bool false) := by rw [← hW, World.cell?_alloc_at _ _ _ _ (by simp)]; rfl
    have f4 : W.frozen? ⟨w.heap.size + 1, 0, none⟩ = false := by rw [← hW]; exact World.frozen?_alloc_at _ _ _ _ (by simp)
    exact ⟨zatB c4 hA, (hA.frozen (p := ⟨w.heap.size + 1, 0, none⟩) (by show w.heap.size + 1 < W.heap.size; omega)).trans f4⟩
  have HN := Lib.hid (H_new (On.emp W))
  rw [hn]
  have HKeys := Lib.hid hkeys
  have HRes := Lib.hid hres
  have HNn := Lib.hid hn
  have hnI0 : ¬ (n : Int) = 0 := by omega
  have hnb : ((n : Int) == 0) = false := by simp; omega
  have hnI1 : ¬ (60 : Int) < (n : Int) := by omega
  have hn60 : (n : Int) ≤ 60 := by omega
  have hn0 : (0 : Int) < (n : Int) := by omega
  clear hc hfr hn hkc hkeys hres hs
  refine (callsIn_wide (n := 9)).1 ?_
  refine callsIn_of_wp_marks Try.func5 rfl trivial ?_ rfl
  simp only [Try.ntmps5, List.size_toArray, List.length_cons, List.length_nil, Nat.reduceAdd, Nat.reduceSub, Array.replicate_succ, Array.replicate_zero, List.push_toArray, List.append_toArray, List.nil_append, List.cons_append]
  gi_wp2_with fail
  refine ⟨trivial, ?_⟩
  refine (callsIn_wide.2 HN.out).mono ?_
  rintro e w2 ⟨hb, rfl, h2⟩
  have hb2 := h2.to_below
  obtain ⟨d2, _⟩ := HKeys.out w2 hb2
  obtain ⟨bn, hbn⟩ : ∃ bn, w2.heap.size = bn := ⟨_, rfl⟩
  have hbn1 : W.heap.size ≤ bn := by rw [← hbn]; exact hb2.size
  obtain ⟨w3, hw3⟩ : ∃ w3, w2.alloc (.cells #[.int .i64 n] 3) = w3 := ⟨_, rfl⟩
  have h3 : On W w3 (sep (H hb []) (sep (boxA bn 3 #[.int .i64 n]) emp)) := by
    rw [← hw3, ← hbn]
    exact (h2.add ((Below.refl _ w2).alloc (Nat.le_refl _) _) (boxA_new w2 3 #[.int .i64 n]) (fun j hj => by omega)).left
  have n3 : w3.cell? ⟨bn, 0, none⟩ = some (.int .i64 n) := by rw [← hw3, ← hbn, World.cell?_alloc_at _ _ _ _ rfl]; rfl
  have H3 := Lib.hid h3
  clear h2 hb2 h3
  gi_wp2_with fail
  have hnN : ¬ n = 0 := by omega
  have hwr : IntKind.i64.wrap (fr.tmod n + n) = fr.tmod n + n := IntWalk.i64_in _ (by omega)
  have n3d : w3.drew.cell? ⟨bn, 0, none⟩ = some (.int .i64 n) := n3
  refine wpIn_wide.2 ?_
  refine wp_region_loose (fun A => A = w3.drew) (by kernel_rfl) (by kernel_rfl) rfl ?_
  iterate 8 (refine loose_val (v := ?_) (by rfl) ?_ ?_; rotate_left; (focus (intro A' hA'; subst hA'; go_simp; (try simp only [hnN, if_false, hwr, hf0]); first | done | with_reducible rfl)); simp only [Act.put, List.setIfInBounds_toArray, List.set_cons_zero, List.set_cons_succ])
  refine loose_nil ?_
  rintro wz rfl
  have HD3 := Lib.hid (H3.out.below ((Below.refl _ w3).drew))
  clear n3 n3d hW
  gi_wp2_with fail
  gi_loopg [8] n (fun gh s8 wr => ∃ i : Nat, i + gh = n ∧ s8 = .int .i64 (i : Int) ∧ On W wr (sep (H hb (La zs i)) (sep (boxA bn 3 #[.int .i64 n]) emp)))
  case atStart => exact ⟨0, by omega, rfl, HD3.out⟩
  case round =>
    obtain ⟨i, hi, rfl, hon⟩ := hrel
    have n4 : wr.cell? ⟨bn, 0, none⟩ = some (.int .i64 n) := by
      obtain ⟨F, hF, _⟩ := hon.left.get1
      exact boxA_cell hF 0
    obtain ⟨d3, dk⟩ := HKeys.out wr hon.to_below
    by_cases hlt : i < n
    · have hltI : (i : Int) < (n : Int) := by omega
      have hi0 : (0 : Int) ≤ (i : Int) := by omega
      obtain ⟨x, hx⟩ : ∃ x, zs[i]?.getD 0 = x := ⟨_, rfl⟩
      have q1 : wr.cell? ⟨kb, ko + i, none⟩ = some (.int .i64 x) := by rw [← hx]; exact dk i hlt
      have hc1 := H_put hon (i : Int) x (by omega) (by simp [Lit.wf, IntKind.min, IntKind.max, IntKind.signed, IntKind.bits]; omega) La_new (by rw [La_length]; omega)
      have HC1 := Lib.hid hc1
      have HX := Lib.hid hx
      clear hon hc1 hx dk
      gi_wp2_with fail
      refine ⟨trivial, ?_⟩
      refine (callsIn_wide.2 HC1.out).mono ?_
      rintro e w4 ⟨rfl, h4⟩
      have H4 := Lib.hid h4
      clear h4
      gi_wp2_with fail
      gi_roundg (n - (i + 1))
      case measure => omega
      case rel =>
        refine ⟨i + 1, by omega, by go_num, ?_⟩
        have := H4.out
        rw [← HX.out] at this
        rw [La]
        exact this
    · have hin : n = i := by omega
      subst hin
      have HOn := Lib.hid hon
      clear hon dk
      gi_wp2_with fail
      have hon0 : On W wr (sep (H hb (Rest zs f0 0)) (sep (boxA bn 3 #[.int .i64 (n : Int)]) (markA W.heap.size []))) := by
        have e1 : (La zs n).Perm (Rest zs f0 0) := by rw [← HNn.out]; exact (Srt_perm zs).symm
        have := (HOn.out.mono1 fun F => H_perm e1 F)
        exact this.mono fun F hF => sep_monoR hF fun F' hF' => sep_monoR hF' fun F'' h => ⟨by simp, by simp, h⟩
      have HOn0 := Lib.hid hon0
      clear hon0 HOn
      refine wpIn_loop_ghost_k (fun gh act wr => ∃ (i : Nat) (Ds : List Nat) (g : Nat → Value), act = { tmps := #[Value.slice (some ⟨kb, ko, none⟩) n cap, .int .i64 (f0 : Int), .pointer (some ⟨w.heap.size, 0, none⟩), g 3, .pointer (some ⟨w.heap.size + 1, 0, none⟩), .pointer (some ⟨hb, 0, none⟩), g 6, .pointer (some ⟨bn, 0, none⟩), g 8, .int .i64 (i : Int), g 10, g 11, g 12, g 13, g 14, g 15, g 16, g 17, g 18, g 19, g 20, g 21, g 22, g 23, g 24, g 25, g 26, g 27, g 28, g 29, g 30, g 31, g 32, g 33, g 34, g 35, g 36, g 37, g 38, g 39, g 40, g 41, g 42, g 43, g 44, g 45, g 46, g 47, g 48, g 49, g 50, g 51, g 52, g 53, g 54, g 55, g 56, g 57, g 58, g 59, g 60, g 61, g 62, g 63, g 64, g 65, g 66, g 67, g 68, g 69, g 70, g 71, g 72, g 73, g 74, g 75, g 76, g 77, g 78, g 79, g 80, g 81, g 82, g 83, g 84, g 85, g 86, g 87, g 88, g 89, g 90, g 91, g 92, g 93, g 94, g 95, g 96, g 97, g 98, g 99, g 100, g 101, g 102, g 103, g 104, g 105, g 106, g 107, g 108, g 109, g 110, g 111, g 112, g 113, g 114, g 115, g 116, g 117, g 118, g 119, g 120, g 121, g 122, g 123, g 124, g 125, g 126, g 127, g 128, g 129, g 130, g 131, g 132, g 133, g 134, g 135, g 136, g 137, g 138, g 139, g 140, g 141, g 142, g 143, g 144, g 145, g 146, g 147, g 148, g 149, g 150, g 151, g 152, g 153, g 154, g 155, g 156, g 157, g 158, g 159, g 160, g 161, g 162, g 163, g 164, g 165, g 166, g 167], defers := Ds.map mk } ∧ i + gh = n ∧
        On W wr (sep (H hb (Rest zs f0 i)) (sep (boxA bn 3 #[.int .i64 (n : Int)]) (markA W.heap.size Ds)))) n ?start ?round
      case start => exact ⟨0, [], pick_shape (by kernel_rfl) ⟨by omega, HOn0.out⟩⟩
      case round =>
        rintro gk act wr ⟨i, Ds, g, rfl, hin, hon⟩ J K hJ hK
        have HJ := Lib.hid hJ
        have HOn := Lib.hid hon
        have n4 : wr.cell? ⟨bn, 0, none⟩ = some (.int .i64 n) := by
          obtain ⟨F, hF, _⟩ := hon.left.get1
          exact boxA_cell hF 0
        have HIn := Lib.hid hin
        have hi' : i ≤ n := by omega
        clear hJ hon hin
        by_cases hlt : i < n
        · have hltI : (i : Int) < (n : Int) := by omega
          obtain ⟨k, hk⟩ : ∃ k, (f0 + i) % n = k := ⟨_, rfl⟩
          have hkn : k < n := by rw [← hk]; exact Nat.mod_lt _ (by omega)
          have hknI : (k : Int) < (n : Int) := by omega
          have hk0 : (0 : Int) ≤ (k : Int) := by omega
          have hw1 : IntKind.i64.wrap ((f0 : Int) + (i : Int)) = ((f0 + i : Nat) : Int) := by rw [IntWalk.i64_in _ (by omega)]; omega
          have hw2 : ((f0 : Int) + (i : Int)).tmod n = (k : Int) := by
            rw [← hk]
            exact rfl
          obtain ⟨x1, hx1⟩ : ∃ x1, wr.alloc (.cells #[.int .i64 (k : Int)] 3) = x1 := ⟨_, rfl⟩
          obtain ⟨bk, hbk⟩ : ∃ bk, wr.heap.size = bk := ⟨_, rfl⟩
          have hP : ∀ A M, On W A (sep (H hb M) (sep (boxA bk 3 #[.int .i64 (k : Int)]) (sep (boxA bn 3 #[.int .i64 (n : Int)]) (markA W.heap.size Ds)))) →
              A.cell? ⟨bk, 0, none⟩ = some (.int .i64 (k : Int)) ∧ A.cell? ⟨bn, 0, none⟩ = some (.int .i64 (n : Int)) ∧ A.cell? ⟨w.heap.size, 0, none⟩ = some (.slice (some ⟨kb, ko, none⟩) n cap) ∧ A.cell? ⟨kb, ko + k, none⟩ = some (.int .i64 (zs[k]?.getD 0)) := fun A M hA => by
            obtain ⟨F, hF, _⟩ := hA.left.get1
            obtain ⟨F2, hF2, _⟩ := hA.third.get1
            obtain ⟨r1, r2⟩ := HKeys.out A hA.to_below
            exact ⟨boxA_cell hF 0, boxA_cell hF2 0, r1, r2 k hkn⟩
          have hon1 : On W x1 (sep (H hb (Rest zs f0 i)) (sep (boxA bk 3 #[.int .i64 (k : Int)]) (sep (boxA bn 3 #[.int .i64 (n : Int)]) (markA W.heap.size Ds)))) := by
            rw [← hx1, ← hbk]
            exact (HOn.out.add ((Below.refl _ wr).alloc (Nat.le_refl _) _) (boxA_new wr 3 #[.int .i64 (k : Int)]) (fun j hj => by omega)).left
          obtain ⟨e1, _⟩ := hP x1 _ hon1
          obtain ⟨z, hz⟩ : ∃ z, zs[k]?.getD 0 = z := ⟨_, rfl⟩
          have hitm : itm zs k = ((k : Int), z) := by rw [itm, hz]
          have hmem : ((k : Int), z) ∈ Rest zs f0 i := by
            rw [← hitm, ← hk, ← HNn.out]
            exact Rest_mem (Nat.le_refl _) (by rw [HNn.out]; exact hlt)
          have hrest : (Rest zs f0 i).erase ((k : Int), z) = Rest zs f0 (i + 1) := by rw [Rest, HNn.out, hk, hitm]
          obtain ⟨L, hL⟩ : ∃ L, L + i + 1 = n := ⟨n - i - 1, by omega⟩
          have hlen : (Rest zs f0 (i + 1)).length = L := by rw [Rest_len (by rw [HNn.out]; omega), HNn.out]; omega
          have hd := H_drop hon1 hmem (by rw [Rest_len (by rw [HNn.out]; omega), HNn.out]; omega)
          rw [hrest] at hd
          have hgone : ∀ x ∈ Rest zs f0 (i + 1), x.1 ≠ (k : Int) := by
            rw [← hrest]
            exact erase_gone (Rest_distinct zs f0 i) hmem
          have hkw : (Lit.int .i64 (k : Int)).wf = true := by simp [Lit.wf, IntKind.min, IntKind.max, IntKind.signed, IntKind.bits]; omega
          have HD := Lib.hid hd
          have HP := Lib.hid hP
          have HZ := Lib.hid hz
          have HGone := Lib.hid hgone
          have HLen := Lib.hid hlen
          have HKw := Lib.hid hkw
          have HItm := Lib.hid hitm
          have hlw1 : IntKind.i64.wrap ((n : Int) - (i : Int)) = (L : Int) + 1 := by rw [IntWalk.i64_in _ (by omega)]; omega
          have hlw2 : IntKind.i64.wrap (L : Int) = (L : Int) := IntWalk.i64_in _ (by omega)
          have hlL : (L : Int) + 1 ≤ n := by omega
          have hL0 : (0 : Int) ≤ L := by omega
          clear hd hP hz hgone hlen hkw hitm hon1 hmem hrest hk
          gi_wp2_with fail
          refine ⟨trivial, ?_⟩
          refine (callsIn_wide.2 HD.out).mono ?_
          rintro e x2 ⟨rfl, h2⟩
          obtain ⟨F, hF, _⟩ := h2.get1
          have HG := Lib.hid (Get_none hF HKw.out HGone.out)
          have HLn := Lib.hid (Len_ok ((HeapAt.below hF) ((Below.refl _ x2).drew)))
          obtain ⟨e2, e3, e4, e5⟩ := HP.out x2 _ h2
          rw [HZ.out] at e5
          have H2 := Lib.hid h2
          clear h2 hF e1
          gi_wp2_with fail
          refine ⟨trivial, ?_⟩
          refine (callsIn_wide.2 HG.out).mono ?_
          rintro e x3 ⟨rfl, rfl⟩
          gi_wp2_with fail
          have f2 : x2.drew.cell? ⟨bk, 0, none⟩ = some (.int .i64 (k : Int)) := e2
          have f3 : x2.drew.cell? ⟨bn, 0, none⟩ = some (.int .i64 (n : Int)) := e3
          have f4 : x2.drew.cell? ⟨w.heap.size, 0, none⟩ = some (.slice (some ⟨kb, ko, none⟩) n cap) := e4
          have f5 : x2.drew.cell? ⟨kb, ko + k, none⟩ = some (.int .i64 z) := e5
          refine wpIn_wide.2 ?_
          refine wp_region_loose (fun A => A = x2.drew) (by kernel_rfl) (by kernel_rfl) rfl ?_
          have hcl : ∀ A, A = x2.drew → Calls Try.prog 25 #[.pointer (some ⟨hb, 0, none⟩)] A fun e w' => e = .returned (.int .i64 (L : Int)) ∧ w' = x2.drew := fun A hA => by
            subst hA
            exact HLn.out.mono fun e w' ⟨h1, h2⟩ => ⟨by rw [h1, HLen.out], h2.symm⟩
          have HCl := Lib.hid hcl
          clear hcl
          iterate 16 (refine loose_val (v := ?_) (by rfl) ?_ ?_; rotate_left; (focus (intro A' hA'; subst hA'; go_simp; first | done | with_reducible rfl)); simp only [Act.put, List.setIfInBounds_toArray, List.set_cons_zero, List.set_cons_succ])
          refine loose_call HCl.out (by rfl) ?_ ?_
          · intro A hA
            go_simp
            done
          simp only [Act.put, List.setIfInBounds_toArray, List.set_cons_zero, List.set_cons_succ]
          iterate 6 (refine loose_val (v := ?_) (by rfl) ?_ ?_; rotate_left; (focus (intro A' hA'; subst hA'; go_simp; first | done | with_reducible rfl)); simp only [Act.put, List.setIfInBounds_toArray, List.set_cons_zero, List.set_cons_succ])
          refine loose_nil ?_
          rintro wz rfl
          have H3 := Lib.hid (H2.out.below ((Below.refl _ x2).drew))
          clear f2 f3 f4 f5 e2 e3 e4 e5
          gi_wp2_with fail
          have hAll : ∀ A M, On W A (sep (H hb M) (sep (boxA bk 3 #[.int .i64 (k : Int)]) (sep (boxA bn 3 #[.int .i64 (n : Int)]) (markA W.heap.size Ds)))) → M.length < 1000000 →
              Calls Try.prog 32 #[.pointer (some ⟨hb, 0, none⟩)] A fun e w' => ∃ B hb' F', e = .returned (.func (.func 81) #[] #[.pointer (some ⟨B, 0, none⟩)]) ∧ w'.cell? ⟨B, 0, none⟩ = some (.pointer (some ⟨hb', 0, none⟩)) ∧
                HeapAt w' hb' 20 ltI F' M ∧ Below A.heap.size A w' := fun A M hA hM => by
            obtain ⟨F, hF, _⟩ := hA.get1
            exact All_any hF hM
          have HAll := Lib.hid (hAll _ _ H3.out (by rw [HLen.out]; omega))
          clear hAll
          refine ⟨trivial, ?_⟩
          refine (callsIn_wide.2 HAll.out).mono ?_
          rintro e x4 ⟨B, hb', F', rfl, hB, hA4, hb4⟩
          have hq : ∀ w, (binOp BinOp.eql 50 (.func (.func 81) #[] #[.pointer (some ⟨B, 0, none⟩)]) .nilFunc).run Try.prog w = .ok (.bool false) w := fun w => by kernel_rfl
          have H4 := Lib.hid (H3.out.below hb4)
          have HB := Lib.hid hB
          have HA4 := Lib.hid hA4
          obtain ⟨x5, hx5⟩ : ∃ x5, x4.alloc (.cells #[.int .i64 0] 3) = x5 := ⟨_, rfl⟩
          obtain ⟨x6, hx6⟩ : ∃ x6, x5.alloc (.cells #[.int .i64 0, .int .i64 0] 32) = x6 := ⟨_, rfl⟩
          obtain ⟨bm, hbm⟩ : ∃ bm, x4.heap.size = bm := ⟨_, rfl⟩
          obtain ⟨bl, hbl⟩ : ∃ bl, x5.heap.size = bl := ⟨_, rfl⟩
          have HX5 := Lib.hid hx5
          have HX6 := Lib.hid hx6
          have HBm := Lib.hid hbm
          have HBl := Lib.hid hbl
          clear hB hA4 hb4 hx5 hx6 hbm hbl
          gi_wp2_with fail
          have hx5 := HX5.out
          have hbl1 : bl = bm + 1 := by rw [← HBl.out, ← hx5, ← HBm.out]; simp
          have hx6s : x6.heap.size = bm + 2 := by rw [← HX6.out]; simp [HBl.out, hbl1]
          have hm45 : Mod none' x4 x5 := by rw [← hx5]; exact (Mod.refl _ x4).alloc _
          have hm56 : Mod none' x5 x6 := by rw [← HX6.out]; exact (Mod.refl _ x5).alloc _
          have hm46 := hm45.trans' hm56
          have o1 : x6.heap[bm]? = some (.cells #[.int .i64 (([] : List (It Int)).length : Int)] 3 (0, 0)) := by
            refine hm56.obj ?_ (fun h => h)
            rw [← hx5, ← HBm.out]; exact heap_alloc_new x4 _
          have o2 : x6.heap[bl]? = some (.cells (lastP []) 32 (0, 0)) := by rw [← HX6.out, ← HBl.out]; exact heap_alloc_new x5 _
          rw [hx5, HX6.out, HBm.out]
          clear hx5
          subst hbl1
          have hbm4 := HBm.out
          have hkey : ∀ A, Mod none' x4 A → A.cell? ⟨bk, 0, none⟩ = some (.int .i64 (k : Int)) ∧ A.cell? ⟨bn, 0, none⟩ = some (.int .i64 (n : Int)) ∧ A.cell? ⟨w.heap.size, 0, none⟩ = some (.slice (some ⟨kb, ko, none⟩) n cap) ∧
              (∀ j, j < n → A.cell? ⟨kb, ko + j, none⟩ = some (.int .i64 (zs[j]?.getD 0))) := fun A hA => by
            have h := H4.out.below hA.to_below
            obtain ⟨r1, r2, r3, _⟩ := HP.out A _ h
            exact ⟨r1, r2, r3, (HKeys.out A h.to_below).2⟩
          have HKey := Lib.hid hkey
          have hBlt : B < bm := by rw [← hbm4]; exact World.block_lt_of_cell? x4 _ HB.out
          have hFlt : ∀ j, F' j → j < bm := fun j hj => by rw [← hbm4]; exact HA4.out.lt_F hj
          have HFlt := Lib.hid hFlt
          clear hkey hFlt
          refine wpIn_range rfl (by omega) (gf := 81) (lb := #[.pointer (some ⟨B, 0, none⟩)]) rfl trivial (enters_of Try.func81 (by kernel_rfl) rfl)
            (All1_iter lessI _ B hb' F' (Rest zs f0 (i + 1)) x6 (hm46.cell HB.out (fun h => h)) (HA4.out.mod hm46 (fun _ _ h => h)) (Rest_sorted _ _ _) (by rw [HLen.out]; omega)) (Keeps.refl _ _) (fun _ => rfl)
            (fun pre A => Mod none' x4 A ∧ A.heap[bm]? = some (.cells #[.int .i64 (pre.length : Int)] 3 (0, 0)) ∧ A.heap[bm + 1]? = some (.cells (lastP pre) 32 (0, 0)))
            (fun _ _ _ => False)
            (fun pre A A' ⟨h1, h2, h3⟩ hm' => ⟨h1.then_mv hm' (fun i hi hlt => by omega) (by omega), hm'.obj h2 rfl (by omega), hm'.obj h3 rfl (by omega)⟩)
            (fun _ _ _ _ h _ => h.elim)
            ⟨hm46, o1, o2⟩ ?round ?done ?stop
          case round =>
            rintro l pre ⟨x, y⟩ A hlA _ ⟨h1, h2, h3⟩ hpre
            have hmem : (x, y) ∈ Rest zs f0 (i + 1) := hpre.subset (by simp)
            obtain ⟨j, hj, hxy⟩ := mem_Srt ((Rest_sub zs f0 (i + 1)).subset hmem)
            rw [HNn.out] at hj
            have hxk := HGone.out _ hmem
            have hpl := hpre.length_le
            rw [HLen.out, List.length_append] at hpl
            obtain ⟨y', hy'⟩ : ∃ y', zs[j]?.getD 0 = y' := ⟨_, rfl⟩
            rw [itm, hy'] at hxy
            cases hxy
            have hjk : ¬ j = k := fun e => hxk (by rw [e])
            have hbefp : ∀ z, pre.getLast? = some z → bef (z.2, z.1) (y, (j : Int)) = true := fun z hz => by
              have hs : List.Pairwise (fun a b => Hp.ahead ltI a b = true) (pre ++ [((j : Int), y)]) := (Rest_sorted zs f0 (i + 1)).sublist hpre.sublist
              rw [List.pairwise_append] at hs
              exact bef_ahead (y := ((j : Int), y)) (hs.2.2 z (List.mem_of_getLast? hz) _ (List.mem_singleton.2 rfl))
            have HBef := Lib.hid hbefp
            have HY := Lib.hid hy'
            clear hbefp hy' hmem hxk hpre
            gi_wp2_with fail
            refine ⟨Ctl.refl _ _, Keeps.refl _ _, fun Wb hmb ⟨_, _⟩ => ?_⟩
            have g1 := h1.then_mv hmb (fun _ h _ => h) (by omega)
            have g2 := hmb.obj h2 rfl (fun h => h)
            have g3 := hmb.obj h3 rfl (fun h => h)
            have hmoves : ∀ A, Below Wb.heap.size Wb A → ∀ u0 u1, lastP (pre ++ [((j : Int), y)]) = #[u0, u1] → outPost x6.heap.size (fun j => F' j ∨ j = B ∨ x6.heap.size ≤ j)
                (fun pre A => Mod none' x4 A ∧ A.heap[bm]? = some (.cells #[.int .i64 (pre.length : Int)] 3 (0, 0)) ∧ A.heap[bm + 1]? = some (.cells (lastP pre) 32 (0, 0))) (fun _ _ _ => False) (pre ++ [((j : Int), y)]) Wb .normal { tmps := #[], defers := [] }
                (((A.setCell ⟨bm + 1, 0, none⟩ u0).setCell ⟨bm + 1, 1, none⟩ u1).setCell ⟨bm, 0, none⟩ (.int .i64 ((pre.length : Int) + 1))) := fun A hA u0 u1 hu => by
              have hmA : Mod none' Wb A := Mod.of_below hA
              have q2 := hmA.obj g2 (fun h => h)
              have q3 := hmA.obj g3 (fun h => h)
              have s1 : Mod (fun j => j = bm ∨ j = bm + 1) A (A.setCell ⟨bm + 1, 0, none⟩ u0) := (Mod.refl (fun j => j = bm ∨ j = bm + 1) A).setCell (p := ⟨bm + 1, 0, none⟩) (fun _ => .inr rfl) _
              have s2 := s1.setCell (p := ⟨bm + 1, 1, none⟩) (fun _ => .inr rfl) u1
              have s3 := s2.setCell (p := ⟨bm, 0, none⟩) (fun _ => .inl rfl) (.int .i64 ((pre.length : Int) + 1))
              have hall := (hmA.mono (T := fun j => j = bm ∨ j = bm + 1) (fun _ h _ => h.elim)).trans' s3
              refine ⟨hall.ctl _, hall.keeps ?_, ?_, ?_, ?_⟩
              · rintro q (h | h | h) _ (h' | h')
                · have := HFlt.out q h; omega
                · have := HFlt.out q h; omega
                · omega
                · omega
                · omega
                · omega
              · exact g1.trans hall (fun q hq hlt => by rcases hq with h | h <;> omega)
              · rw [heap_setCell_at (heap_setCell_other' (heap_setCell_other' q2 (by dsimp only; omega)) (by dsimp only; omega))]
                simp
              · rw [hu]
                refine heap_setCell_other' ?_ (by dsimp only; omega)
                have h0 : ∃ c0 c1, lastP pre = #[c0, c1] := by
                  unfold lastP
                  split <;> exact ⟨_, _, rfl⟩
                obtain ⟨c0, c1, hc⟩ := h0
                rw [hc] at q3
                rw [heap_setCell_at (heap_setCell_at q3)]
                simp
            have HMoves := Lib.hid hmoves
            have hfx : ∀ A, Below Wb.heap.size Wb A → (A.cell? ⟨bm, 0, none⟩ = some (.int .i64 (pre.length : Int)) ∧ A.frozen? ⟨bm, 0, none⟩ = false ∧ A.cell? ⟨bm + 1, 0, none⟩ = (lastP pre)[0]? ∧ A.cell? ⟨bm + 1, 1, none⟩ = (lastP pre)[1]? ∧ A.frozen? ⟨bm + 1, 0, none⟩ = false ∧ A.frozen? ⟨bm + 1, 1, none⟩ = false) ∧
                (A.cell? ⟨bk, 0, none⟩ = some (.int .i64 (k : Int)) ∧ A.cell? ⟨bn, 0, none⟩ = some (.int .i64 (n : Int)) ∧ A.cell? ⟨w.heap.size, 0, none⟩ = some (.slice (some ⟨kb, ko, none⟩) n cap) ∧ A.cell? ⟨kb, ko + j, none⟩ = some (.int .i64 y)) := fun A hA => by
              have hmA : Mod none' Wb A := Mod.of_below hA
              have q2 := hmA.obj g2 (fun h => h)
              have q3 := hmA.obj g3 (fun h => h)
              obtain ⟨r1, r2, r3, r4⟩ := HKey.out A (g1.trans' hmA)
              exact ⟨⟨by simp [World.cell?, q2], by simp [World.frozen?, q2], by simp [World.cell?, q3], by simp [World.cell?, q3], by simp [World.frozen?, q3], by simp [World.frozen?, q3]⟩, r1, r2, r3, by rw [r4 j hj, HY.out]⟩
            obtain ⟨x7, hx7⟩ : ∃ x7, Wb.alloc (.cells #[.int .i64 y, .int .i64 (j : Int)] 32) = x7 := ⟨_, rfl⟩
            have hb7 : Below Wb.heap.size Wb x7 := by rw [← hx7]; exact (Below.refl _ Wb).alloc (Nat.le_refl _) _
            have n0 : x7.cell? ⟨Wb.heap.size, 0, none⟩ = some (.int .i64 y) := by rw [← hx7, World.cell?_alloc_at _ _ _ _ rfl]; rfl
            have n1 : x7.cell? ⟨Wb.heap.size, 1, none⟩ = some (.int .i64 (j : Int)) := by rw [← hx7, World.cell?_alloc_at _ _ _ _ rfl]; rfl
            obtain ⟨⟨p1, p2, p3, p4, p5, p6⟩, p7, p8, p9, p10⟩ := hfx x7 hb7
            have HFx := Lib.hid hfx
            have HB7 := Lib.hid hb7
            have hj0 : (0 : Int) ≤ (j : Int) := by omega
            have hjn : (j : Int) < (n : Int) := by omega
            have hjnl : ¬ n ≤ j := by omega
            have hjneg : ((j : Int) < 0) = False := by simp
            have hjkb : ((j : Int) == (k : Int)) = false := by simp; omega
            have hpl' : (pre.length : Int) + 1 ≤ L := by simp at hpl; omega
            have hbz : bm ≠ bm + 1 := by omega
            have hWbz : bm + 1 < Wb.heap.size := lt_of_some g3
            have hz1 : Wb.heap.size ≠ bm := by omega
            have hz2 : Wb.heap.size ≠ bm + 1 := by omega
            clear hfx hb7 g1 g2 g3 h1 h2 h3 hmb hpl hmoves
            rcases hpre0 : pre.getLast? with _ | ⟨l1, l2⟩
            · have hnil : pre = [] := List.getLast?_eq_none_iff.1 hpre0
              subst hnil
              clear hpre0
              have e0 : (lastP ([] : List (It Int)))[0]? = some (.int .i64 0) := rfl
              have e1 : (lastP ([] : List (It Int)))[1]? = some (.int .i64 0) := rfl
              rw [e0] at p3
              rw [e1] at p4
              clear e0 e1
              gi_wp2_with fail
              refine ⟨trivial, ?_⟩
              gi_wp2_with fail
              exact HMoves.out x7 HB7.out _ _ (lastP_snoc _ _)
            · have hbf := HBef.out _ hpre0
              have hpp : (0 : Int) < (pre.length : Int) := by
                have : pre ≠ [] := fun e => by rw [e] at hpre0; cases hpre0
                have := List.length_pos_iff.2 this
                omega
              have e0 : (lastP pre)[0]? = some (.int .i64 l2) := by unfold lastP; rw [hpre0]; rfl
              have e1 : (lastP pre)[1]? = some (.int .i64 l1) := by unfold lastP; rw [hpre0]; rfl
              have hcall := before_any l2 l1 y (j : Int) x7
              rw [hbf] at hcall
              have HCall := Lib.hid hcall
              rw [e0] at p3
              rw [e1] at p4
              have HE0 := Lib.hid e0
              have HE1 := Lib.hid e1
              clear hcall hbf hpre0 e0 e1
              gi_wp2_with fail
              refine ⟨trivial, ?_⟩
              refine (callsIn_wide.2 HCall.out).mono ?_
              rintro e x8 ⟨rfl, hb8⟩
              have p0 := zatB n0 hb8
              have p1' := zatB n1 hb8
              obtain ⟨⟨o1', o2', o3', o4', o5', o6'⟩, o7', o8', o9', o10'⟩ := HFx.out x8 (HB7.out.trans (hb8.mono HB7.out.size))
              rw [HE0.out] at o3'
              rw [HE1.out] at o4'
              have HB8 := Lib.hid (HB7.out.trans (hb8.mono HB7.out.size))
              clear p1 p2 p3 p4 p5 p6 p7 p8 p9 p10 n0 n1 hb8
              gi_wp2_with fail
              exact HMoves.out x8 HB8.out _ _ (lastP_snoc _ _)
          case done =>
            rintro D A hD ⟨h1, h2, h3⟩ hKd
            have hmcell : A.cell? ⟨bm, 0, none⟩ = some (.int .i64 (L : Int)) := by
              rw [HLen.out] at h2
              simp [World.cell?, h2]
            obtain ⟨r1, r2, r3, _⟩ := HKey.out A h1
            have hlw3 : IntKind.i64.wrap ((L : Int) + 1 - 1) = (L : Int) := by rw [IntWalk.i64_in _ (by omega)]; omega
            have honA := H4.out.below h1.to_below
            have hdA : On W A (sep (H hb (Rest zs f0 (i + 1))) (sep (boxA bn 3 #[.int .i64 (n : Int)]) (markA W.heap.size (D :: Ds)))) := by
              have hsz : W.heap.size ≤ x4.heap.size := H4.out.to_below.size
              obtain ⟨Fm, hFm, _⟩ := H4.out.left.out1.left.out1.comm.get1
              refine honA.left.out1.mono fun F hF => sep_monoR hF fun F' hF' => sep_monoR hF' fun F'' ⟨m1, m2, m3⟩ => ⟨fun E hE => ?_, List.nodup_cons.2 ⟨fun h => ?_, m2⟩, m3⟩
              · rcases List.mem_cons.1 hE with rfl | hE
                · exact ⟨hKd, by omega⟩
                · exact m1 E hE
              · have := lt_of_some (hFm.1 D h).1
                omega
            have HdA := Lib.hid hdA
            clear honA hdA h1 h2 h3 hKd
            gi_wp2_with fail
            refine Handed.intro (n - (i + 1)) (by have := HIn.out; omega) (HJ.out _ _ _ ⟨i + 1, D :: Ds, pick_shape (by kernel_rfl) ⟨by omega, HdA.out⟩⟩)
          case stop =>
            rintro D c pre A _ _ h _
            exact h.elim
        · have hiI : ¬ ((i : Int) < (n : Int)) := by omega
          have HAw := Lib.hid (awake_ok wr)
          have HBr := Lib.hid HOn.out.to_below
          obtain ⟨Fm, hFm, _⟩ := HOn.out.left.out1.comm.get1
          have HFm := Lib.hid hFm
          clear hFm
          gi_wp2_with fail
          refine ⟨trivial, ?_⟩
          refine (callsIn_wide.2 HAw.out).mono ?_
          rintro e y1 ⟨rfl, hb1⟩
          have hby := HBr.out.trans (hb1.mono HBr.out.size)
          obtain ⟨r1, r2⟩ := HRes.out y1 hby
          have hDy : ∀ D ∈ Ds, y1.heap[D]? = some (.deferred (some [])) ∧ W.heap.size ≤ D := fun D hD => ⟨(Mod.of_below (S := none') hb1).block D _ (HFm.out.1 D hD).1 (.inl rfl), (HFm.out.1 D hD).2⟩
          have HDy := Lib.hid hDy
          have HBy := Lib.hid hby
          clear hDy hby hb1
          gi_wp2_with fail
          refine leaves_marks W.heap.size Ds _ HFm.out.2.1 (fun D hD => ⟨setCell_ctl (HDy.out D hD).1 (.inl rfl), (HDy.out D hD).2⟩) fun W' hW' => ?_
          have hset : Mod (fun j => j = w.heap.size + 1) y1 (y1.setCell ⟨w.heap.size + 1, 0, none⟩ (.bool true)) := (Mod.refl (fun j => j = w.heap.size + 1) y1).setCell (p := ⟨w.heap.size + 1, 0, none⟩) (fun _ => rfl) _
          have hc4 := hW'.cell (world_setCell_same r1 (.bool true)) (fun h => h)
          have hall : Mod none' w W' := by
            have h1 := (Mod.of_below (S := none') (hbW.trans (HBy.out.mono hbW.size))).trans hset (fun j hj hl => by omega)
            exact h1.then_mv hW' (fun _ h _ => h) (by omega)
          exact ⟨.bool true, by simp [results, Try.f5, go_sem, hc4], rfl, hall.to_below⟩
end Go.Proofs.Ytecfenoidcolfaa
