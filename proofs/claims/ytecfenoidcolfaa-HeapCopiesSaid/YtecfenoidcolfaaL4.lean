/-
  Walk: the law HeapPlays.
-/
import Derived.Test.YtecfenoidcolfaaSame
namespace Go.Proofs.Ytecfenoidcolfaa
set_option linter.unusedVariables false
open Go.RowKit Hp

/-- calls of a slice that came in: what is asked, the key, the number -/
def OpsAt (w : World) (a : Option Addr) (os : List (Int × Int × Int)) : Prop :=
  (os.length = 0 ∨ ∃ b off, a = some ⟨b, off, none⟩ ∧ b < w.heap.size ∧ ∀ k, k < os.length → w.cell? ⟨b, off + k * 3, none⟩ = some (.int .i64 (os[k]?.getD (0, 0, 0)).1) ∧
    w.cell? ⟨b, off + k * 3 + 1, none⟩ = some (.int .i64 (os[k]?.getD (0, 0, 0)).2.1) ∧ w.cell? ⟨b, off + k * 3 + 2, none⟩ = some (.int .i64 (os[k]?.getD (0, 0, 0)).2.2)) ∧
  ∀ o ∈ os, (Lit.int .i64 o.2.2).wf = true

theorem few_any (a : Option Addr) (n cap : Nat) (w : World) :
    Calls Try.prog 33 #[.slice a n cap] w fun e w' => e = .returned (.bool (decide ((n : Int) ≤ 60))) ∧ w = w' := by
  go_enter Try.func33, Try.ntmps33
  go_wp2
  go_ret
  exact ⟨rfl, rfl⟩

theorem refA_new (w : World) : (refA w.heap.size []).holds (w.alloc (.cells #[.slice none 0 0] 56)) (fun j => j = w.heap.size) :=
  ⟨.slice none 0 0, ⟨heap_alloc_new w _, World.ownsRow_nil _ _ _ _⟩, fun j => by simp [Value.ownBlock]⟩

theorem On.same {w0 w : World} {hb rb : Nat} {S : List (It Int)} {R : Ast} (h : On w0 w (sep (H hb S) (sep (refA rb S) R))) (hs : Sorted ltI S) (hl : S.length < 800000) :
    Calls Try.prog 35 #[.pointer (some ⟨hb, 0, none⟩), .pointer (some ⟨rb, 0, none⟩)] w fun e w' => e = .returned (.bool true) ∧ On w0 w' (sep (H hb S) (sep (refA rb S) R)) := by
  obtain ⟨F, hF, _⟩ := h.get1
  obtain ⟨v, hr⟩ := h.ref2
  exact (same_ok hF hr hs hl).mono fun e w' ⟨he, hb⟩ => ⟨he, h.below hb⟩

set_option maxRecDepth 100000 in
set_option maxHeartbeats 4000000 in
theorem plays_many (a : Option Addr) (cap n : Nat) (w : World) (hl : 60 < n) :
    Calls Try.prog 6 #[.slice a n cap] w fun e w' => e = .returned (.bool true) ∧ Below w.heap.size w w' := by
  have HN := Lib.hid (H_new (On.emp w))
  have hlI : decide ((n : Int) ≤ 60) = false := by simp; omega
  have hf := few_any a n cap
  have HF := Lib.hid hf
  have HlI := Lib.hid hlI
  clear hf hlI
  go_enter Try.func6, Try.ntmps6
  go_wp2_with fail
  refine HN.out.mono ?_
  rintro e w1 ⟨hh, rfl, h1⟩
  have HB := Lib.hid h1.to_below
  have HAw := Lib.hid (awake_ok w1)
  clear h1
  go_wp2_with fail
  refine (HF.out _).mono ?_
  rw [HlI.out]
  rintro e w2 ⟨rfl, rfl⟩
  go_wp2_with fail
  refine HAw.out.mono ?_
  rintro e w3 ⟨rfl, hb3⟩
  have HB3 := Lib.hid (HB.out.trans (hb3.mono HB.out.size))
  clear hb3
  go_wp2_with fail
  go_ret
  exact ⟨rfl, HB3.out⟩

set_option maxRecDepth 100000 in
set_option maxHeartbeats 4000000 in
theorem plays_ok (a : Option Addr) (cap : Nat) (os : List (Int × Int × Int)) (w : World) (hc : OpsAt w a os) (hl1 : os.length ≤ 60) :
    Calls Try.prog 6 #[.slice a os.length cap] w fun e w' => e = .returned (.bool true) ∧ Below w.heap.size w w' := by
  obtain ⟨n, hn⟩ : ∃ n, os.length = n := ⟨_, rfl⟩
  have HN := Lib.hid (H_new (On.emp w))
  rw [hn]
  have hlI : decide ((n : Int) ≤ 60) = true := by simp; omega
  have hf := few_any a n cap
  have HF := Lib.hid hf
  have HlI := Lib.hid hlI
  have HC := Lib.hid hc
  have HNn := Lib.hid hn
  have hn60 : (n : Int) ≤ 60 := by omega
  clear hf hlI hc hn
  go_enter Try.func6, Try.ntmps6
  go_wp2_with fail
  refine HN.out.mono ?_
  rintro e w1 ⟨hh, rfl, h1⟩
  have H1 := Lib.hid h1
  clear h1
  go_wp2_with fail
  refine (HF.out _).mono ?_
  rw [HlI.out]
  rintro e w2 ⟨rfl, rfl⟩
  have h2 := H1.out.add ((Below.refl _ w1).alloc (Nat.le_refl _) _) (refA_new w1) (fun j hj => by omega)
  have H2 := Lib.hid h2.left
  obtain ⟨rb, hrb⟩ : ∃ rb, w1.heap.size = rb := ⟨_, rfl⟩
  clear h2
  go_wp2_with fail
  go_loopg [6] n (fun gh s6 wr => ∃ (k : Nat) (S : List (It Int)), k + gh = n ∧ s6 = .int .i64 (k : Int) ∧ Sorted ltI S ∧ S.length ≤ k ∧ On w wr (sep (H hh S) (sep (refA rb S) emp)))
  case atStart => exact ⟨0, [], by omega, rfl, List.Pairwise.nil, Nat.le_refl _, by rw [← hrb]; exact H2.out⟩
  case round =>
    obtain ⟨k, S, hk, rfl, hs, hsl, hon⟩ := hrel
    by_cases hlt : k < n
    · have hltI : (k : Int) < (n : Int) := by omega
      have hk0 : (0 : Int) ≤ (k : Int) := by omega
      obtain ⟨hc, hwf⟩ := HC.out
      obtain ⟨b, off, rfl, hb, hcells⟩ := hc.resolve_left (by rw [HNn.out]; omega)
      obtain ⟨⟨ask, at', id⟩, hz⟩ : ∃ z, os[k]?.getD (0, 0, 0) = z := ⟨_, rfl⟩
      have hcj := hcells k (by rw [HNn.out]; exact hlt)
      rw [hz] at hcj
      obtain ⟨p0, p1, p2⟩ := hcj
      have hbw := hon.to_below
      have q0 := zatB p0 hbw
      have q1 := zatB p1 hbw
      have q2 := zatB p2 hbw
      dsimp only at q0 q1 q2
      have hw : (Lit.int .i64 id).wf = true := by
        have hm : (ask, at', id) ∈ os := by
          have : k < os.length := by rw [HNn.out]; exact hlt
          rw [List.getElem?_eq_getElem this, Option.getD_some] at hz
          rw [← hz]; exact List.getElem_mem _
        exact hwf _ hm
      have hdo := does_ok hon hs (by omega) ask id at' hw
      have HDo := Lib.hid hdo
      have HS := Lib.hid (stepS_sorted (ask := ask) (id := id) (k := at') hs)
      have HL := Lib.hid (show (stepS S ask id at').length ≤ k + 1 by have := stepS_length (S := S) (ask := ask) (id := id) (k := at'); omega)
      clear hdo hw hwf hcells hz hs hon p0 p1 p2 hbw hc hsl
      go_wp2_with fail
      refine HDo.out.mono ?_
      rintro e x1 ⟨rfl, hon1⟩
      have HSm := Lib.hid (hon1.same HS.out (by have := HL.out; omega))
      clear hon1
      go_wp2_with fail
      refine HSm.out.mono ?_
      rintro e x2 ⟨rfl, hon2⟩
      have HO := Lib.hid hon2
      clear hon2
      go_wp2_with fail
      go_roundg (n - (k + 1))
      case measure => omega
      case rel => exact ⟨k + 1, _, by omega, by go_num, HS.out, HL.out, HO.out⟩
    · have hkn : k = n := by omega
      subst hkn
      have HAw := Lib.hid (awake_ok wr)
      have HB := Lib.hid hon.to_below
      clear hon
      go_wp2_with fail
      refine HAw.out.mono ?_
      rintro e x3 ⟨rfl, hb3⟩
      have HB3 := Lib.hid (HB.out.trans (hb3.mono HB.out.size))
      clear hb3
      go_wp2_with fail
      go_ret
      exact ⟨rfl, HB3.out⟩
end Go.Proofs.Ytecfenoidcolfaa
