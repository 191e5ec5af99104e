/-
  Walk: the law HeapCopies.
-/
import Derived.Test.YtecfenoidcolfaaOps
import Derived.Test.YtecfenoidcolfaaApp
import Derived.Test.YtecfenoidcolfaaSwap
import Derived.Deep.RegionLaw
namespace Go.Proofs.Ytecfenoidcolfaa
set_option linter.unusedVariables false
open Go.RowKit Hp
attribute [local go_sem] Oper.semAt_some

/-- what All hands back holds -/
def seqA (B : Nat) (S : List (It Int)) : Ast where
  holds w F := ∃ hb F', w.cell? ⟨B, 0, none⟩ = some (.pointer (some ⟨hb, 0, none⟩)) ∧ HeapAt w hb 20 ltI F' S ∧ ∀ j, F j ↔ F' j ∨ j = B
  stable := fun ⟨hb, F', h1, h2, h3⟩ hm hS => ⟨hb, F', hm.cell h1 (hS B ((h3 B).2 (.inr rfl))), h2.mod hm fun j hj => hS j ((h3 j).2 (.inl hj)), h3⟩
  lt := fun ⟨hb, F', h1, h2, h3⟩ hj => by
    rcases (h3 _).1 hj with h | h
    · exact h2.lt_F h
    · rw [h]; exact World.block_lt_of_cell? _ _ h1

section
variable {w0 w : World} {hb : Nat} {S : List (It Int)} {R : Ast}
theorem H_all (h : On w0 w (sep (H hb S) R)) (hl : S.length < 900000) :
    Calls Try.prog 32 #[.pointer (some ⟨hb, 0, none⟩)] w fun e w' => ∃ B, e = .returned (.func (.func 81) #[] #[.pointer (some ⟨B, 0, none⟩)]) ∧ On w0 w' (sep (seqA B S) (sep (H hb S) R)) := by
  obtain ⟨F, hF, _⟩ := h.get1
  refine (All_new hF (by omega)).mono ?_
  rintro e w' ⟨B, hb', F', he, h1, h2, h3, h4, h5⟩
  exact ⟨B, he, h.add h3 (B := seqA B S) (F := fun j => F' j ∨ j = B) ⟨hb', F', h1, h2, fun j => Iff.rfl⟩ (fun j hj => by
    rcases hj with hj | hj
    · exact h5 j hj
    · omega)⟩
theorem H_copy (h : On w0 w (sep (H hb S) R)) (hl : S.length < 900000) :
    Calls Try.prog 36 #[.pointer (some ⟨hb, 0, none⟩)] w fun e w' => ∃ hc, e = .returned (.pointer (some ⟨hc, 0, none⟩)) ∧ On w0 w' (sep (H hc S) (sep (H hb S) R)) := by
  obtain ⟨F, hF, _⟩ := h.get1
  refine (Copy_ok hF (by omega)).mono ?_
  rintro e w' ⟨hb', F', he, h1, h2, h3⟩
  exact ⟨hb', he, h.add h2 (B := H hb' S) h1 h3⟩
end
theorem keySlice : SliceOf Try.prog 38 32 2 16 := by
  obtain ⟨i0, hi0, hz0, hz1, hz2⟩ := info_parts2 Try.info32
  exact ⟨Try.underlying38, ⟨i0, _, hi0, hz0, hz1, hz2, rfl⟩, by omega⟩

set_option maxRecDepth 100000 in
set_option maxHeartbeats 4000000 in
theorem copies_many (a a' : Option Addr) (cap cap' n m : Nat) (w : World) (hl : 60 < n ∨ 60 < m) :
    Calls Try.prog 7 #[.slice a n cap, .slice a' m cap'] w fun e w' => e = .returned (.bool true) ∧ Below w.heap.size w w' := by
  obtain ⟨br, hbr⟩ : ∃ br, w.heap.size = br := ⟨_, rfl⟩
  obtain ⟨W, hW⟩ : ∃ W, w.alloc (.cells #[.bool false] 4) = W := ⟨_, rfl⟩
  have h0 : On w W (sep (boxA br 4 #[.bool false]) emp) := by
    rw [← hW, ← hbr]
    exact (On.emp w).add ((Below.refl _ w).alloc (Nat.le_refl _) _) (boxA_new w 4 #[.bool false]) (fun j hj => by omega)
  have HN := Lib.hid (H_new h0)
  have HF := Lib.hid (few_any a n cap)
  have HF' := Lib.hid (few_any a' m cap')
  clear h0
  refine (callsIn_wide (n := 9)).1 ?_
  refine callsIn_of_wp_marks Try.func7 rfl trivial ?_ rfl
  simp only [Try.ntmps7, List.size_toArray, List.length_cons, List.length_nil, Nat.reduceAdd, Nat.reduceSub, Array.replicate_succ, Array.replicate_zero, List.push_toArray, List.append_toArray, List.nil_append, List.cons_append]
  gi_wp2_with fail
  refine ⟨trivial, ?_⟩
  refine (callsIn_wide.2 HN.out).mono ?_
  rintro e w1 ⟨hh, rfl, h1⟩
  have H1 := Lib.hid h1
  have HAw := Lib.hid (awake_ok w1)
  have hend : ∀ w3, Below w1.heap.size w1 w3 → w3.cell? ⟨br, 0, none⟩ = some (.bool false) ∧ w3.frozen? ⟨br, 0, none⟩ = false ∧ Below w.heap.size w (w3.setCell ⟨br, 0, none⟩ (.bool true)) := fun w3 h3 => by
    have h4 := H1.out.below h3
    obtain ⟨F, hF, hFl⟩ := h4.out1.get1
    exact ⟨boxA_cell hF 0, boxA_free hF 0, h4.to_below.setCell (p := ⟨br, 0, none⟩) (hFl br ((hF.2 br).2 rfl)) _⟩
  have HEnd := Lib.hid hend
  clear h1 hend
  by_cases hn : 60 < n
  · have hlI : decide ((n : Int) ≤ 60) = false := by simp; omega
    have HlI := Lib.hid hlI
    clear hlI hl
    gi_wp2_with fail
    refine ⟨trivial, ?_⟩
    refine (callsIn_wide.2 (HF.out _)).mono ?_
    rw [HlI.out]
    rintro e w2 ⟨rfl, rfl⟩
    gi_wp2_with fail
    refine ⟨trivial, ?_⟩
    gi_wp2_with fail
    refine ⟨trivial, ?_⟩
    refine (callsIn_wide.2 HAw.out).mono ?_
    rintro e w3 ⟨rfl, hb3⟩
    obtain ⟨c3, f3, b3⟩ := HEnd.out w3 hb3
    have HB3 := Lib.hid b3
    clear b3 hb3
    gi_wp2_with fail
    have h4 := world_setCell_same c3 (.bool true)
    refine ⟨.bool true, by simp [results, Try.f7, go_sem, h4], rfl, HB3.out⟩
  · have hlI : decide ((n : Int) ≤ 60) = true := by simp; omega
    have hlI' : decide ((m : Int) ≤ 60) = false := by simp; omega
    have HlI := Lib.hid hlI
    have HlI' := Lib.hid hlI'
    clear hlI hlI' hl
    gi_wp2_with fail
    refine ⟨trivial, ?_⟩
    refine (callsIn_wide.2 (HF.out _)).mono ?_
    rw [HlI.out]
    rintro e w2 ⟨rfl, rfl⟩
    gi_wp2_with fail
    refine ⟨trivial, ?_⟩
    refine (callsIn_wide.2 (HF'.out _)).mono ?_
    rw [HlI'.out]
    rintro e w2 ⟨rfl, rfl⟩
    gi_wp2_with fail
    refine ⟨trivial, ?_⟩
    refine (callsIn_wide.2 HAw.out).mono ?_
    rintro e w3 ⟨rfl, hb3⟩
    obtain ⟨c3, f3, b3⟩ := HEnd.out w3 hb3
    have HB3 := Lib.hid b3
    clear b3 hb3
    gi_wp2_with fail
    have h4 := world_setCell_same c3 (.bool true)
    refine ⟨.bool true, by simp [results, Try.f7, go_sem, h4], rfl, HB3.out⟩

theorem ops_at {w A : World} {a : Option Addr} {os : List (Int × Int × Int)} (h : OpsAt w a os) (hb : Below w.heap.size w A) {k : Nat} (hk : k < os.length) :
    ∃ b off ask at' id, a = some ⟨b, off, none⟩ ∧ A.cell? ⟨b, off + k * 3, none⟩ = some (.int .i64 ask) ∧ A.cell? ⟨b, off + k * 3 + 1, none⟩ = some (.int .i64 at') ∧ A.cell? ⟨b, off + k * 3 + 2, none⟩ = some (.int .i64 id) ∧ (Lit.int .i64 id).wf = true := by
  obtain ⟨hc, hwf⟩ := h
  obtain ⟨b, off, ha, _, hcells⟩ := hc.resolve_left (by omega)
  obtain ⟨p0, p1, p2⟩ := hcells k hk
  refine ⟨b, off, _, _, _, ha, zatB p0 hb, zatB p1 hb, zatB p2 hb, hwf _ ?_⟩
  rw [List.getElem?_eq_getElem hk, Option.getD_some]
  exact List.getElem_mem _

section
variable {w0 w : World} {A B C D E R : Ast} {bn t : Nat} {cs : Array Value} {S : List (It Int)}
theorem On.fifth {G : Ast} (h : On w0 w (sep A (sep B (sep C (sep D (sep E G)))))) : On w0 w (sep E (sep A (sep B (sep C (sep D G))))) := h.mono fun _ h => sep_left (sep_monoR h fun _ h => sep_left (sep_monoR h fun _ h => sep_left (sep_monoR h fun _ => sep_left)))
theorem On.second3 (h : On w0 w (sep A (sep B (sep C R)))) : On w0 w (sep A (sep C (sep B R))) := h.mono fun _ h => sep_monoR h fun _ => sep_left
theorem On.box1 (h : On w0 w (sep (boxA bn t cs) R)) (k : Nat) : w.cell? ⟨bn, k, none⟩ = cs[k]? ∧ w.frozen? ⟨bn, k, none⟩ = false := by
  obtain ⟨F, hF, _⟩ := h.get1
  exact ⟨boxA_cell hF k, boxA_free hF k⟩
theorem On.box_set (h : On w0 w (sep (boxA bn t cs) R)) (k : Nat) (v : Value) : On w0 (w.setCell ⟨bn, k, none⟩ v) (sep (boxA bn t (cs.setIfInBounds k v)) R) := h.step1 fun _ hF => boxA_set hF k v
/-- a round that turns one box alone -/
theorem On.box_mod {w' : World} {cs' : Array Value} (h : On w0 w (sep (boxA bn t cs) R)) (hm : Mod (fun j => j = bn) w w') (ho : w'.heap[bn]? = some (.cells cs' t (0, 0))) : On w0 w' (sep (boxA bn t cs') R) :=
  h.step1 fun F hF => ⟨F, ⟨ho, hF.2⟩, hm.mono fun j hj _ => (hF.2 j).2 hj, fun _ h => .inl h⟩
theorem On.new1 (h : On w0 w R) (t : Nat) (cs : Array Value) : On w0 (w.alloc (.cells cs t)) (sep (boxA w.heap.size t cs) R) :=
  h.add ((Below.refl _ w).alloc (Nat.le_refl _) _) (boxA_new w t cs) (fun j hj => by omega)
theorem On.obj1 (h : On w0 w (sep (boxA bn t cs) R)) : w.heap[bn]? = some (.cells cs t (0, 0)) := by
  obtain ⟨F, hF, _⟩ := h.get1
  exact hF.1
/-- the iterator's own blocks are not the box -/
theorem On.seq_dis {b : Nat} (h : On w0 w (sep (boxA bn t cs) (sep (seqA b S) R))) : ∃ hb F', w.cell? ⟨b, 0, none⟩ = some (.pointer (some ⟨hb, 0, none⟩)) ∧ HeapAt w hb 20 ltI F' S ∧ ∀ q, F' q ∨ q = b → q ≠ bn := by
  obtain ⟨F, ⟨Fa, Fb, ha, ⟨Fc, Fd, ⟨hb, F', h1, h2, h3⟩, _, _, hFb⟩, hdis, _⟩, _⟩ := h
  refine ⟨hb, F', h1, h2, fun q hq e => ?_⟩
  subst e
  exact hdis q ((ha.2 q).2 rfl) ((hFb q).2 (.inl ((h3 q).2 hq)))
end

theorem On.sameB {w0 w : World} {hb rb : Nat} {S : List (It Int)} {R : Ast} (h : On w0 w (sep (H hb S) (sep (refA rb S) R))) (hs : Sorted ltI S) (hl : S.length < 800000) :
    Calls Try.prog 35 #[.pointer (some ⟨hb, 0, none⟩), .pointer (some ⟨rb, 0, none⟩)] w fun e w' => e = .returned (.bool true) ∧ Below w.heap.size w w' := by
  obtain ⟨F, hF, _⟩ := h.get1
  obtain ⟨v, hr⟩ := h.ref2
  exact same_ok hF hr hs hl

set_option maxRecDepth 100000 in
set_option maxHeartbeats 16000000 in
theorem copies_ok (a a' : Option Addr) (cap cap' : Nat) (os ps : List (Int × Int × Int)) (w : World) (hc : OpsAt w a os) (hc' : OpsAt w a' ps) (hl : os.length ≤ 60) (hl' : ps.length ≤ 60) :
    Calls Try.prog 7 #[.slice a os.length cap, .slice a' ps.length cap'] w fun e w' => e = .returned (.bool true) ∧ Below w.heap.size w w' := by
  obtain ⟨n, hn⟩ : ∃ n, os.length = n := ⟨_, rfl⟩
  obtain ⟨m, hm⟩ : ∃ m, ps.length = m := ⟨_, rfl⟩
  obtain ⟨br, hbr⟩ : ∃ br, w.heap.size = br := ⟨_, rfl⟩
  obtain ⟨W, hW⟩ : ∃ W, w.alloc (.cells #[.bool false] 4) = W := ⟨_, rfl⟩
  have h0 : On w W (sep (boxA br 4 #[.bool false]) emp) := by
    rw [← hW, ← hbr]
    exact (On.emp w).new1 _ _
  have HN := Lib.hid (H_new h0)
  have HF := Lib.hid (few_any a n cap)
  have HF' := Lib.hid (few_any a' m cap')
  have hlI : decide ((n : Int) ≤ 60) = true := by simp; omega
  have hlI' : decide ((m : Int) ≤ 60) = true := by simp; omega
  have HlI := Lib.hid hlI
  have HlI' := Lib.hid hlI'
  have hn60 : (n : Int) ≤ 60 := by omega
  have hm60 : (m : Int) ≤ 60 := by omega
  rw [hn, hm]
  have HC := Lib.hid hc
  have HC' := Lib.hid hc'
  have HNn := Lib.hid hn
  have HMm := Lib.hid hm
  clear hc hc' hn hm h0 hlI hlI' hl hl'
  refine (callsIn_wide (n := 9)).1 ?_
  refine callsIn_of_wp_marks Try.func7 rfl trivial ?_ rfl
  simp only [Try.ntmps7, List.size_toArray, List.length_cons, List.length_nil, Nat.reduceAdd, Nat.reduceSub, Array.replicate_succ, Array.replicate_zero, List.push_toArray, List.append_toArray, List.nil_append, List.cons_append]
  gi_wp2_with fail
  refine ⟨trivial, ?_⟩
  refine (callsIn_wide.2 HN.out).mono ?_
  rintro e w1 ⟨hh, rfl, h1⟩
  have H1 := Lib.hid h1
  clear h1
  gi_wp2_with fail
  refine ⟨trivial, ?_⟩
  refine (callsIn_wide.2 (HF.out _)).mono ?_
  rw [HlI.out]
  rintro e w2 ⟨rfl, rfl⟩
  gi_wp2_with fail
  refine ⟨trivial, ?_⟩
  refine (callsIn_wide.2 (HF'.out _)).mono ?_
  rw [HlI'.out]
  rintro e w2 ⟨rfl, rfl⟩
  obtain ⟨rb, hrb⟩ : ∃ rb, w1.heap.size = rb := ⟨_, rfl⟩
  obtain ⟨x2, hx2⟩ : ∃ x2, (w1.alloc (.cells #[.slice none 0 0] 56)).alloc (.cells #[.pointer none] 54) = x2 := ⟨_, rfl⟩
  obtain ⟨x3, hx3⟩ : ∃ x3, x2.setCell ⟨rb + 1, 0, none⟩ (.pointer (some ⟨rb, 0, none⟩)) = x3 := ⟨_, rfl⟩
  have h2 : On w x2 (sep (boxA (rb + 1) 54 #[.pointer none]) (sep (refA rb []) (sep (H hh []) (sep (boxA br 4 #[.bool false]) emp)))) := by
    have := (H1.out.add ((Below.refl _ w1).alloc (Nat.le_refl _) _) (refA_new w1) (fun j hj => by omega)).new1 54 #[.pointer none]
    rw [World.size_alloc, hrb, hx2] at this
    exact this
  obtain ⟨q1, q2⟩ := h2.box1 0
  have q1' : x2.cell? ⟨rb + 1, 0, none⟩ = some (.pointer none) := q1
  have h3 : On w x3 (sep (H hh []) (sep (refA rb []) (sep (boxA (rb + 1) 54 #[.pointer (some ⟨rb, 0, none⟩)]) (sep (boxA br 4 #[.bool false]) emp)))) := by
    rw [← hx3]
    exact ((h2.box_set 0 _).sw1.sw0.sw1)
  have H3 := Lib.hid h3
  clear h2 h3 q1
  gi_wp2_with fail
  gi_loopg [8] n (fun gh s8 wr => ∃ (k : Nat) (S : List (It Int)), k + gh = n ∧ s8 = .int .i64 (k : Int) ∧ Sorted ltI S ∧ S.length ≤ k ∧ On w wr (sep (H hh S) (sep (refA rb S) (sep (boxA (rb + 1) 54 #[.pointer (some ⟨rb, 0, none⟩)]) (sep (boxA br 4 #[.bool false]) emp)))))
  case atStart => exact ⟨0, [], by omega, rfl, List.Pairwise.nil, Nat.le_refl _, H3.out⟩
  case round =>
    obtain ⟨k, S, hk, rfl, hs, hsl, hon⟩ := hrel
    by_cases hlt : k < n
    · have hltI : (k : Int) < (n : Int) := by omega
      have hk0 : (0 : Int) ≤ (k : Int) := by omega
      obtain ⟨b, off, ask, at', id, rfl, r0, r1, r2, hw⟩ := ops_at HC.out hon.to_below (k := k) (by rw [HNn.out]; exact hlt)
      have r3 : wr.cell? ⟨rb + 1, 0, none⟩ = some (.pointer (some ⟨rb, 0, none⟩)) := hon.box3 0
      have hdo := does_ok (hon.below ((Below.refl _ wr).drew)) hs (by omega) ask id at' hw
      have HDo := Lib.hid hdo
      have HS := Lib.hid (stepS_sorted (ask := ask) (id := id) (k := at') hs)
      have HL := Lib.hid (show (stepS S ask id at').length ≤ k + 1 by have := stepS_length (S := S) (ask := ask) (id := id) (k := at'); omega)
      have hcl : ∀ A, On w A (sep (H hh (stepS S ask id at')) (sep (refA rb (stepS S ask id at')) (sep (boxA (rb + 1) 54 #[.pointer (some ⟨rb, 0, none⟩)]) (sep (boxA br 4 #[.bool false]) emp)))) →
          A.cell? ⟨b, off + k * 3, none⟩ = some (.int .i64 ask) ∧ A.cell? ⟨b, off + k * 3 + 1, none⟩ = some (.int .i64 at') ∧ A.cell? ⟨b, off + k * 3 + 2, none⟩ = some (.int .i64 id) ∧ A.cell? ⟨rb + 1, 0, none⟩ = some (.pointer (some ⟨rb, 0, none⟩)) := fun A hA => by
        obtain ⟨b', off', ask', at'', id', he, t0, t1, t2, _⟩ := ops_at HC.out hA.to_below (k := k) (by rw [HNn.out]; exact hlt)
        obtain ⟨_, _, _, _, _, he', u0, u1, u2, _⟩ := ops_at HC.out hon.to_below (k := k) (by rw [HNn.out]; exact hlt)
        have hbase : wr.cell? ⟨b, off + k * 3, none⟩ = some (.int .i64 ask) := r0
        obtain ⟨hc0, _⟩ := HC.out
        obtain ⟨b1, off1, ha1, _, hcells⟩ := hc0.resolve_left (by rw [HNn.out]; omega)
        cases ha1
        obtain ⟨p0, p1, p2⟩ := hcells k (by rw [HNn.out]; exact hlt)
        have v0 := (zatB p0 hon.to_below).symm.trans r0
        have v1 := (zatB p1 hon.to_below).symm.trans r1
        have v2 := (zatB p2 hon.to_below).symm.trans r2
        exact ⟨(zatB p0 hA.to_below).trans v0, (zatB p1 hA.to_below).trans v1, (zatB p2 hA.to_below).trans v2, hA.box3 0⟩
      have HCl := Lib.hid hcl
      clear hdo hw hs hon hsl hcl
      gi_wp2_with fail
      refine wpIn_wide.2 ?_
      go_region_held3 (fun A0 => A0.cell? ⟨b, off + k * 3, none⟩ = some (.int .i64 ask) ∧ A0.cell? ⟨b, off + k * 3 + 1, none⟩ = some (.int .i64 at') ∧ A0.cell? ⟨b, off + k * 3 + 2, none⟩ = some (.int .i64 id) ∧ A0.cell? ⟨rb + 1, 0, none⟩ = some (.pointer (some ⟨rb, 0, none⟩)))
        (first | (refine ⟨?_, ?_, ?_, ?_⟩ <;> assumption) | go_keep)
        (first
          | (go_at_call 34; refine HDo.out.mono ?_; rintro e A1 ⟨rfl, hx1⟩; obtain ⟨k0, k1, k2, k3⟩ := HCl.out A1 hx1; have HX1 := Lib.hid hx1; clear hx1))
      gi_wp2_with fail
      gi_roundg (n - (k + 1))
      case measure => omega
      case rel => exact ⟨k + 1, _, by omega, by go_num, HS.out, HL.out, HX1.out⟩
    · have hkn : k = n := by omega
      subst hkn
      have HS := Lib.hid hs
      have hcp := H_copy hon (by omega)
      have HCp := Lib.hid hcp
      clear hon hcp hs
      gi_wp2_with fail
      refine ⟨trivial, ?_⟩
      refine (callsIn_wide.2 HCp.out).mono ?_
      rintro e x3 ⟨hc, rfl, h3⟩
      have hal := H_all (h3.sw0) (by omega)
      have HAl := Lib.hid hal
      clear h3 hal
      gi_wp2_with fail
      refine ⟨trivial, ?_⟩
      refine (callsIn_wide.2 HAl.out).mono ?_
      rintro e x4 ⟨B, rfl, h4⟩
      have hq : ∀ w, (binOp BinOp.eql 50 (.func (.func 81) #[] #[.pointer (some ⟨B, 0, none⟩)]) .nilFunc).run Try.prog w = .ok (.bool false) w := fun w => by kernel_rfl
      have r3 : x4.cell? ⟨rb + 1, 0, none⟩ = some (.pointer (some ⟨rb, 0, none⟩)) := ((h4.sw3.sw2.sw1.sw0).box1 0).1
      have HSm := Lib.hid ((h4.sw1.sw0.sw2.sw1).sameB HS.out (by omega))
      have H4 := Lib.hid h4
      clear h4
      gi_wp2_with fail
      refine ⟨trivial, ?_⟩
      refine (callsIn_wide.2 HSm.out).mono ?_
      rintro e x5 ⟨rfl, hb5⟩
      have h5 := H4.out.below hb5
      obtain ⟨ob, hob⟩ : ∃ ob, x5.heap.size = ob := ⟨_, rfl⟩
      obtain ⟨x6, hx6⟩ : ∃ x6, x5.alloc (.cells #[.slice none 0 0] 56) = x6 := ⟨_, rfl⟩
      have h6 : On w x6 (sep (refA ob []) (sep (seqA B S) (sep (H hh S) (sep (H hc S) (sep (refA rb S) (sep (boxA (rb + 1) 54 #[.pointer (some ⟨rb, 0, none⟩)]) (sep (boxA br 4 #[.bool false]) emp))))))) := by
        rw [← hx6, ← hob]
        exact h5.add ((Below.refl _ x5).alloc (Nat.le_refl _) _) (refA_new x5) (fun j hj => by omega)
      have h6d := h6.below ((Below.refl _ x6).drew)
      obtain ⟨F1, ⟨v1, hr1, _⟩, _⟩ := (h6d.sw3.sw2.sw1.sw0).get1
      obtain ⟨F2, ⟨v2, hr2, _⟩, _⟩ := h6.get1
      obtain ⟨la, lcap, rfl⟩ := hr1.slice
      have t1 : x6.cell? ⟨rb, 0, none⟩ = some (.slice la S.length lcap) := hr1.c0
      have hv2 : v2 = .slice none 0 0 := by
        have h1 := hr2.c0
        rw [← hx6, ← hob, World.cell?_alloc_at _ _ _ _ rfl] at h1
        exact (Option.some.inj h1).symm
      subst hv2
      have t2 : x6.cell? ⟨ob, 0, none⟩ = some (.slice none 0 0) := hr2.c0
      have t3 : x6.frozen? ⟨ob, 0, none⟩ = false := hr2.f0
      have t4 : x6.cell? ⟨rb + 1, 0, none⟩ = some (.pointer (some ⟨rb, 0, none⟩)) := ((h6.sw4.sw3.sw2.sw1.sw0).box1 0).1
      have hro : rb + 1 < ob := by rw [← hob]; exact lt_of_some (h5.sw3.sw2.sw1.sw0).obj1
      have hn1 : ¬ rb = ob := by omega
      have hn2 : ¬ ob = rb := by omega
      have hn3 : ¬ rb + 1 = ob := by omega
      have hn4 : ¬ ob = rb + 1 := by omega
      have hobx : ob < x6.heap.size := lt_of_some hr2.1
      have HReads := Lib.hid (Reads.of_own hr1.2)
      have H6 := Lib.hid h6d
      have HT : Hid (x6.drew.cell? ⟨rb + 1, 0, none⟩ = some (.pointer (some ⟨rb, 0, none⟩)) ∧ x6.drew.cell? ⟨rb, 0, none⟩ = some (.slice la S.length lcap) ∧ x6.drew.cell? ⟨ob, 0, none⟩ = some (.slice none 0 0) ∧ x6.drew.frozen? ⟨ob, 0, none⟩ = false ∧ ob < x6.drew.heap.size) := Lib.hid ⟨t4, t1, t2, t3, hobx⟩
      have hkey := keyC_one S
      have hmx : 0 + S.length ≤ maxLen := by unfold maxLen; omega
      have hby : (0 + S.length) * 16 ≤ 140737488355328 := by omega
      clear h5 h6 h6d hr1 hr2 hb5 r3
      gi_wp2_with fail
      refine wpIn_wide.2 ?_
      refine wp_region_noPanic ?_
      go_region_law (first
        | (refine step_append_any (by rfl) _ _ 38 (by rfl) 32 2 16 keySlice (.slice none 0 0) 0 [] (by rfl) (World.ownsRow_nil _ _ _ _) (.slice la S.length lcap) S.length (S.flatMap keyC) (by rfl) HReads.out hkey hmx hby ?_; intro v' y1 hown hgrow hat; obtain ⟨q, nn, cc, rfl⟩ := own_form hown; have hby1 := below_grown hgrow (by intro j hj; simp [Value.ownBlock] at hj) (Nat.le_refl _); have s1 := zatB HT.out.1 hby1; have s2 := zatB HT.out.2.1 hby1; have s3 := zatB HT.out.2.2.1 hby1; have s4 := (hby1.frozen (p := ⟨ob, 0, none⟩) HT.out.2.2.2.2).trans HT.out.2.2.2.1; have HOwn := Lib.hid hown; have HY1 := Lib.hid hby1; have HAt := Lib.hid hat; clear hown hgrow hat hby1))
      all_goals
        refine NoPanic.normal ?_
        have h7 : On w (y1.setCell ⟨ob, 0, none⟩ (.slice q nn cc)) (sep (refA ob S) (sep (seqA B S) (sep (H hh S) (sep (H hc S) (sep (refA rb S) (sep (boxA (rb + 1) 54 #[.pointer (some ⟨rb, 0, none⟩)]) (sep (boxA br 4 #[.bool false]) emp))))))) :=
          H6.out.step1 fun F hF => ref_set hF HY1.out HOwn.out (by omega) (by rfl) (own_new (B := x6.drew.heap.size) HAt.out (by simp [Value.ownBlock]) (Nat.le_refl _))
        have H7 := Lib.hid h7
        clear h7 t1 t2 t3 t4 s1 s2 s3 s4 hn1 hn2 hn3 hn4
        gi_wp2_with fail
        gi_loopg [12] m (fun gh s12 wr => ∃ (k : Nat) (S2 : List (It Int)), k + gh = m ∧ s12 = .int .i64 (k : Int) ∧ Sorted ltI S2 ∧ S2.length ≤ S.length + k ∧ On w wr (sep (H hh S2) (sep (refA ob S2) (sep (seqA B S) (sep (H hc S) (sep (refA rb S) (sep (boxA (rb + 1) 54 #[.pointer (some ⟨rb, 0, none⟩)]) (sep (boxA br 4 #[.bool false]) emp))))))))
        case atStart => exact ⟨0, S, by omega, rfl, HS.out, by omega, (H7.out.sw1.sw0)⟩
        case round =>
          obtain ⟨j, S2, hj, rfl, hs2, hsl2, hon2⟩ := hrel
          by_cases hjm : j < m
          · have hjmI : (j : Int) < (m : Int) := by omega
            have hj0 : (0 : Int) ≤ (j : Int) := by omega
            obtain ⟨b, off, ask, at', id, rfl, r0, r1, r2, hw⟩ := ops_at HC'.out hon2.to_below (k := j) (by rw [HMm.out]; exact hjm)
            have hdo := does_ok hon2 hs2 (by omega) ask id at' hw
            have HDo := Lib.hid hdo
            have HS2 := Lib.hid (stepS_sorted (ask := ask) (id := id) (k := at') hs2)
            have HL2 := Lib.hid (show (stepS S2 ask id at').length ≤ S.length + (j + 1) by have := stepS_length (S := S2) (ask := ask) (id := id) (k := at'); omega)
            clear hdo hw hs2 hon2 hsl2
            gi_wp2_with fail
            refine ⟨trivial, ?_⟩
            refine (callsIn_wide.2 HDo.out).mono ?_
            rintro e z1 ⟨rfl, hz1⟩
            have HZ1 := Lib.hid hz1
            clear hz1
            gi_wp2_with fail
            gi_roundg (m - (j + 1))
            case measure => omega
            case rel => exact ⟨j + 1, _, by omega, by go_num, HS2.out, HL2.out, HZ1.out⟩
          · have hjm2 : j = m := by omega
            subst hjm2
            obtain ⟨bn, hbn⟩ : ∃ bn, wr.heap.size = bn := ⟨_, rfl⟩
            obtain ⟨x7, hx7⟩ : ∃ x7, wr.alloc (.cells #[.int .i64 0] 3) = x7 := ⟨_, rfl⟩
            obtain ⟨x8, hx8⟩ : ∃ x8, x7.setCell ⟨bn, 0, none⟩ (.int .i64 0) = x8 := ⟨_, rfl⟩
            have h7 := hon2.new1 3 #[.int .i64 0]
            rw [hx7, hbn] at h7
            have h8 := h7.box_set 0 (.int .i64 0)
            rw [hx8] at h8
            obtain ⟨y1', y2'⟩ := h7.box1 0
            have y1 : x7.cell? ⟨bn, 0, none⟩ = some (.int .i64 0) := y1'
            have hw8 : Below wr.heap.size wr x8 := by rw [← hx8, ← hx7]; exact ((Below.refl _ wr).alloc (Nat.le_refl _) _).setCell (p := ⟨bn, 0, none⟩) (by show wr.heap.size ≤ bn; omega) _
            obtain ⟨hb2, F', hB, hA4, hdis⟩ := (h8.sw2.sw1).seq_dis
            obtain ⟨Fr, ⟨v1, hr1, _⟩, _⟩ := (hon2.sw3.sw2.sw1.sw0).get1
            obtain ⟨la', lcap', rfl⟩ := hr1.slice
            have hb7 := lt_of_some (hon2.sw4.sw3.sw2.sw1.sw0).obj1
            have hcb7 : wr.cell? ⟨rb + 1, 0, none⟩ = some (.pointer (some ⟨rb, 0, none⟩)) := ((hon2.sw4.sw3.sw2.sw1.sw0).box1 0).1
            have hrbl : rb < wr.heap.size := lt_of_some hr1.1
            have ho8 := h8.obj1
            have HR := Lib.hid hr1
            have HS2 := Lib.hid hs2
            have HSl2 := Lib.hid (show S2.length < 800000 by omega)
            have H8 := Lib.hid h8
            have HB := Lib.hid hB
            have HA4 := Lib.hid hA4
            have HDis := Lib.hid hdis
            have HW8 := Lib.hid hw8
            have HB7 := Lib.hid hcb7
            have HO8 := Lib.hid ho8
            have hb7' : rb + 1 < bn := by omega
            have hbrn : br < bn := by rw [← hbn]; exact lt_of_some (hon2.sw5.sw4.sw3.sw2.sw1.sw0).obj1
            have hsz8 : x8.heap.size = bn + 1 := by rw [← hx8, World.setCell, Array.size_modify, ← hx7, World.size_alloc, hbn]
            have HSz8 := Lib.hid hsz8
            clear h7 h8 y1' hon2 hs2 hsl2 hr1 hB hA4 hdis hw8 hb7 hcb7 hrbl ho8 hsz8
            gi_wp2_with fail
            refine wpIn_range rfl (by omega) (gf := 81) (lb := #[.pointer (some ⟨B, 0, none⟩)]) rfl trivial (enters_of Try.func81 (by kernel_rfl) rfl)
              (All1_iter lessI _ B hb2 F' S x8 HB.out HA4.out HS.out (by omega)) (Keeps.refl _ _) (fun _ => rfl)
              (fun pre A => Mod (fun j => j = bn) x8 A ∧ A.heap[bn]? = some (.cells #[.int .i64 (pre.length : Int)] 3 (0, 0)))
              (fun _ _ _ => False)
              (fun pre A A' ⟨h1, h2⟩ hm' => ⟨h1.then_mv hm' (fun i hi hlt => by omega) (Nat.le_refl _), hm'.obj h2 rfl (by have := HSz8.out; omega)⟩)
              (fun _ _ _ _ h _ => h.elim)
              ⟨Mod.refl _ _, HO8.out⟩ ?round ?done ?stop
            case round =>
              rintro l pre ⟨x, y⟩ A hlA _ ⟨h1, h2⟩ hpre
              have hpl : pre.length < S.length := by
                have := hpre.length_le
                rw [List.length_append] at this
                simp at this
                omega
              have hat : S[pre.length]? = some (x, y) := by
                obtain ⟨t, ht⟩ := hpre
                rw [← ht, List.append_assoc, List.getElem?_append_right (Nat.le_refl _)]
                simp
              obtain ⟨g, cap0, hv, hlc, d0, d1, hg⟩ := HR.out.at hat
              injection hv with hv1 hv2 hv3
              subst hv1
              dsimp only at d0 d1
              have hgb : g < bn := by omega
              have hcl : ∀ A', Mod (fun j => j = bn) x8 A' → A'.cell? ⟨rb + 1, 0, none⟩ = some (.pointer (some ⟨rb, 0, none⟩)) ∧ A'.cell? ⟨rb, 0, none⟩ = some (.slice (some ⟨g, 0, none⟩) S.length lcap') ∧ A'.cell? ⟨g, pre.length * 2 + 1, none⟩ = some (.int .i64 x) := fun A' hA => by
                exact ⟨hA.cell (zatB HB7.out HW8.out) (by dsimp only; omega), hA.cell (zatB HR.out.c0 HW8.out) (by dsimp only; omega), hA.cell (zatB d1 HW8.out) (by dsimp only; omega)⟩
              have HCl := Lib.hid hcl
              have H1' := Lib.hid h1
              have H2' := Lib.hid h2
              clear hcl h1 h2 d0 d1 hv2 hv3 hg hat hpre
              gi_wp2_with fail
              refine ⟨Ctl.refl _ _, Keeps.refl _ _, fun Wb hmb ⟨_, _⟩ => ?_⟩
              have g1 := H1'.out.then_mv hmb (fun _ h _ => h.elim) (Nat.le_refl _)
              have g2 := hmb.obj H2'.out rfl (fun h => h)
              obtain ⟨p0, p1, p3⟩ := HCl.out Wb g1
              have p4 : Wb.cell? ⟨bn, 0, none⟩ = some (.int .i64 (pre.length : Int)) := by simp [World.cell?, g2]
              have p5 : Wb.frozen? ⟨bn, 0, none⟩ = false := by simp [World.frozen?, g2]
              have G1 := Lib.hid g1
              have G2 := Lib.hid g2
              have hplN : ¬ S.length ≤ pre.length := by omega
              have hplI : ¬ (S.length : Int) ≤ (pre.length : Int) := by omega
              have hplI2 : (pre.length : Int) < (S.length : Int) := by omega
              have hpl0 : (0 : Int) ≤ (pre.length : Int) := by omega
              have hplb : (pre.length : Int) + 1 ≤ 800000 := by omega
              clear g1 g2 hmb
              gi_wp2_with fail
              refine wpIn_region_loose (fun A' => Below Wb.heap.size Wb A') (by kernel_rfl) (by kernel_rfl) (by kernel_rfl) ((Below.refl _ Wb).drew) ?_
              iterate 19 (refine loose_val (v := ?_) (by rfl) ?_ ?_; rotate_left; (focus (intro A' hA'; have r0 := zatB p0 hA'; have r1 := zatB p1 hA'; have r3 := zatB p3 hA'; have r4 := zatB p4 hA'; go_simp; first | done | with_reducible rfl)); simp only [Act.put, List.setIfInBounds_toArray, List.set_cons_zero, List.set_cons_succ])
              refine loose_nil ?_
              intro wz hz
              have z4 := zatB p4 hz
              have z5 : wz.frozen? ⟨bn, 0, none⟩ = false := ((Mod.of_below (S := none') hz).frozen p4 (fun h => h)).trans p5
              have HZ := Lib.hid hz
              clear p0 p1 p3 p4 p5 hz
              gi_wp2_with fail
              have hmz : Mod none' Wb wz := Mod.of_below HZ.out
              have hst : Mod (fun j => j = bn) wz (wz.setCell ⟨bn, 0, none⟩ (.int .i64 ((pre.length : Int) + 1))) := (Mod.refl (fun j => j = bn) wz).setCell (p := ⟨bn, 0, none⟩) (fun _ => rfl) _
              have hall := (hmz.mono (T := fun j => j = bn) (fun _ h _ => h.elim)).trans' hst
              refine ⟨hall.ctl _, hall.keeps ?_, G1.out.trans' hall, ?_⟩
              · rintro q (h | h | h) _ h'
                · exact HDis.out q (.inl h) h'
                · exact HDis.out q (.inr h) h'
                · have := HSz8.out; omega
              · have := heap_setCell_at (k := 0) (v := .int .i64 ((pre.length : Int) + 1)) (hmz.obj G2.out (fun h => h))
                rw [this]
                simp
            case done =>
              rintro D A hD ⟨h1, h2⟩ hKd
              have hon := H8.out.box_mod h1 h2
              have hond := hon.below ((Below.refl _ A).drew)
              have p0 : A.cell? ⟨rb + 1, 0, none⟩ = some (.pointer (some ⟨rb, 0, none⟩)) := h1.cell (zatB HB7.out HW8.out) (by dsimp only; omega)
              have p1 : A.cell? ⟨rb, 0, none⟩ = some (.slice la' S.length lcap') := h1.cell (zatB HR.out.c0 HW8.out) (by dsimp only; omega)
              have p2 : A.cell? ⟨bn, 0, none⟩ = some (.int .i64 (S.length : Int)) := by simp [World.cell?, h2]
              obtain ⟨Fb, hFb, hFbl⟩ := (hon.sw6.sw5.sw4.sw3.sw2.sw1.sw0).get1
              have hs1 : ∀ A', Below A.drew.heap.size A.drew A' → Calls Try.prog 35 #[.pointer (some ⟨hc, 0, none⟩), .pointer (some ⟨rb, 0, none⟩)] A' fun e w' => e = .returned (.bool true) ∧ Below A.drew.heap.size A.drew w' := fun A' hA' =>
                (((hond.below hA').sw3.sw2.sw1.sw0.sw4.sw3.sw2.sw1).sameB HS.out (by omega)).mono fun e w' ⟨he, hb⟩ => ⟨he, hA'.trans (hb.mono hA'.size)⟩
              have hs2 : ∀ A', Below A.drew.heap.size A.drew A' → Calls Try.prog 35 #[.pointer (some ⟨hh, 0, none⟩), .pointer (some ⟨ob, 0, none⟩)] A' fun e w' => e = .returned (.bool true) ∧ Below A.drew.heap.size A.drew w' := fun A' hA' =>
                (((hond.below hA').sw0.sw1).sameB HS2.out HSl2.out).mono fun e w' ⟨he, hb⟩ => ⟨he, hA'.trans (hb.mono hA'.size)⟩
              have haw : ∀ A', Below A.drew.heap.size A.drew A' → Calls Try.prog 21 #[] A' fun e w' => e = .returned (.bool true) ∧ Below A.drew.heap.size A.drew w' := fun A' hA' =>
                (awake_ok A').mono fun e w' ⟨he, hb⟩ => ⟨he, hA'.trans (hb.mono hA'.size)⟩
              have hcl : ∀ A', Below A.drew.heap.size A.drew A' → A'.cell? ⟨rb + 1, 0, none⟩ = some (.pointer (some ⟨rb, 0, none⟩)) ∧ A'.cell? ⟨rb, 0, none⟩ = some (.slice la' S.length lcap') ∧ A'.cell? ⟨bn, 0, none⟩ = some (.int .i64 (S.length : Int)) ∧ A'.cell? ⟨br, 0, none⟩ = some (.bool false) ∧ A'.frozen? ⟨br, 0, none⟩ = false := fun A' hA' => by
                have hA := hond.below hA'
                obtain ⟨u1, u2⟩ := (hA.sw6.sw5.sw4.sw3.sw2.sw1.sw0).box1 0
                exact ⟨((hA.sw5.sw4.sw3.sw2.sw1.sw0).box1 0).1, zatB (w := A.drew) p1 hA', (hA.box1 0).1, u1, u2⟩
              have hfin : ∀ A', Below A.drew.heap.size A.drew A' → Below w.heap.size w (A'.setCell ⟨br, 0, none⟩ (.bool true)) := fun A' hA' => (hond.below hA').to_below.setCell (p := ⟨br, 0, none⟩) (hFbl br ((hFb.2 br).2 rfl)) _
              have hkd : ∀ A', Below A.drew.heap.size A.drew A' → A'.heap[D]? = some (.deferred (some [])) := fun A' hA' => (Mod.of_below (S := none') hA').block D _ hKd (.inl rfl)
              have hbr1 := lt_of_some (hon.sw6.sw5.sw4.sw3.sw2.sw1.sw0).obj1
              have hne1 : ¬ br = rb + 1 := fun e => by
                obtain ⟨Fz, ⟨Fa, Fc, ha, ⟨Fd, _, hd, _, _, hFc⟩, hdis, _⟩, _⟩ := (hon.sw6.sw5.sw4.sw3.sw2.sw1.sw0.sw6.sw5.sw4.sw3.sw2.sw1)
                exact hdis br ((ha.2 br).2 rfl) ((hFc br).2 (.inl ((hd.2 br).2 e)))
              have hne2 : ¬ br = bn := fun e => by
                obtain ⟨Fz, ⟨Fa, Fc, ha, ⟨Fd, _, hd, _, _, hFc⟩, hdis, _⟩, _⟩ := (hon.sw6.sw5.sw4.sw3.sw2.sw1.sw0)
                exact hdis br ((ha.2 br).2 rfl) ((hFc br).2 (.inl ((hd.2 br).2 e)))
              have hne3 : ¬ br = rb := fun e => by
                obtain ⟨Fz, ⟨Fa, Fc, ha, ⟨Fd, _, ⟨_, _, hd⟩, _, _, hFc⟩, hdis, _⟩, _⟩ := (hon.sw6.sw5.sw4.sw3.sw2.sw1.sw0.sw5.sw4.sw3.sw2.sw1)
                exact hdis br ((ha.2 br).2 rfl) ((hFc br).2 (.inl ((hd br).2 (.inl e))))
              have hne1' : ¬ rb + 1 = br := fun e => hne1 e.symm
              have hne2' : ¬ bn = br := fun e => hne2 e.symm
              have hne3' : ¬ rb = br := fun e => hne3 e.symm
              have HS1 := Lib.hid hs1
              have HS2' := Lib.hid hs2
              have HAw := Lib.hid haw
              have HCl := Lib.hid hcl
              have HFin := Lib.hid hfin
              have HKd := Lib.hid hkd
              have HBr := Lib.hid hbr1
              have HB0 := Lib.hid (show Below A.drew.heap.size A.drew A.drew from Below.refl _ _)
              have hDb : br + 1 ≤ D := by have := HSz8.out; omega
              clear h1 h2 hKd hon hond hFb hs1 hs2 haw hcl hfin hkd hbr1 hFbl
              gi_wp2_with fail
              refine wpIn_wide.2 ?_
              go_region_held3 (fun A0 => A0.cell? ⟨rb + 1, 0, none⟩ = some (.pointer (some ⟨rb, 0, none⟩)) ∧ A0.cell? ⟨rb, 0, none⟩ = some (.slice la' S.length lcap') ∧ A0.cell? ⟨bn, 0, none⟩ = some (.int .i64 (S.length : Int)))
                (first | (refine ⟨?_, ?_, ?_⟩ <;> assumption) | go_keep)
                (first
                  | (go_at_call 35; ((with_reducible refine (HS1.out _ HB0.out).mono ?_); rintro e A1 ⟨rfl, hb1⟩; obtain ⟨k0, k1, k2, k3, k4⟩ := HCl.out A1 hb1; have HB1 := Lib.hid hb1; clear hb1))
                  | (go_at_call 35; ((with_reducible refine (HS2'.out _ HB1.out).mono ?_); rintro e A2 ⟨rfl, hb2'⟩; obtain ⟨l0, l1, l2, l3, l4⟩ := HCl.out A2 hb2'; have HB2 := Lib.hid hb2'; clear hb2'))
                  | (go_at_call 21; ((with_reducible refine (HAw.out _ HB2.out).mono ?_); rintro e A3 ⟨rfl, hb3⟩; obtain ⟨m0, m1, m2, m3, m4⟩ := HCl.out A3 hb3; have HB3 := Lib.hid hb3; clear hb3)))
              have hc5 := world_setCell_same m3 (.bool true)
              have HC5 := Lib.hid hc5
              clear hc5
              gi_wp2_with fail
              refine leaves_marks W.heap.size [D] _ (by simp) (fun E hE => ?_) fun W' hW' => ?_
              · rw [List.mem_singleton] at hE
                subst hE
                exact ⟨setCell_ctl (HKd.out _ HB3.out) (.inl rfl), by rw [← hW, World.size_alloc, hbr]; omega⟩
              · have hc6 := hW'.cell HC5.out (fun h => h)
                exact ⟨.bool true, by simp [results, Try.f7, go_sem, hc6], rfl, ((Mod.of_below (S := none') (HFin.out _ HB3.out)).then_mv hW' (fun _ h _ => h) (by rw [← hW]; simp)).to_below⟩
            case stop =>
              rintro D c pre A _ _ h _
              exact h.elim
end Go.Proofs.Ytecfenoidcolfaa
