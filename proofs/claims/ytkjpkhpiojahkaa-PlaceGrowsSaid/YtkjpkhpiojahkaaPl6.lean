/-
  Place: what the laws ask, of the list that Place answers. No program in sight.
-/
import Derived.Test.YtkjpkhpiojahkaaPl5
import Derived.Test.YtkjpkhpiojahkaaPcC
namespace Go.Proofs.Ytkjpkhpiojahkaa
set_option linter.unusedVariables false
open Go.RowKit Hp
section
variable {w0 w : World} {R : Ast} {a : Option Addr} {cap : Nat} {ks : List (Int × Int)} {r : List Int} {ra : Option Addr} {rc : Nat}
theorem placed_wf {B : List Int} (h : Placed r (placeL r (putAll [] ks)) B) (hB : ∀ x ∈ B, x ∈ ks.map (·.2)) (hwf : ∀ k ∈ ks, (Lit.int .i64 k.2).wf = true) : ∀ x ∈ placeL r (putAll [] ks), (Lit.int .i64 x).wf = true := fun x hx => by
  rcases h.laid.mem x hx with rfl | h1
  · decide
  · obtain ⟨k, hk, rfl⟩ := List.mem_map.1 (hB x h1)
    exact hwf k hk
/-- what is known where workers and servers may be -/
structure Fine (r : List Int) (ks : List (Int × Int)) (S : List (It Int)) (a : List Int) : Prop where
  w : workE r = 0
  s : servE ks = 0
  g : Good ks S
  p : Placed r a (bestI S r.length)
  wa : workE a = 0
theorem both_fine (h : bothE r ks = 0) : Fine r ks (putAll [] ks) (placeL r (putAll [] ks)) := by
  obtain ⟨h1, h2⟩ := both_zero h
  have hg := serv_good h2
  have hp := place_placed h1 hg.pos
  obtain ⟨l1, l2, _, _⟩ := work_ok h1
  exact ⟨h1, h2, hg, hp, hp.laid.work (fun x hx => by have := hg.best_pos x hx; omega) (by rw [hp.len]; exact l1) (by rw [hp.len]; exact l2)⟩
theorem both_mk (h1 : workE r = 0) (h2 : servE ks = 0) : bothE r ks = 0 := by unfold bothE; rw [if_pos h1, h2]
theorem both_mkS (h1 : workE r = 0) (h2 : servE ks = 0) : bothS r ks = putAll [] ks := by unfold bothS; rw [if_pos (both_mk h1 h2)]
theorem Fine.wf {a : List Int} {S : List (It Int)} (h : Fine r ks S a) (hwf : ∀ k ∈ ks, (Lit.int .i64 k.2).wf = true) : ∀ x ∈ a, (Lit.int .i64 x).wf = true := fun x hx => by
  rcases h.p.laid.mem x hx with rfl | h1
  · decide
  · obtain ⟨k, hk, rfl⟩ := List.mem_map.1 (h.g.id.1 (bestI_sub h1))
    exact hwf k hk
/-- Place, where all is fine -/
theorem place_fine {S : List (It Int)} {a' : List Int} (hS : putAll [] ks = S) (hA : placeL r S = a') (hb : bothE r ks = 0) (h : On w0 w R) (hr : ∀ A, On w0 A R → IntsAt A ra r) (hrw : ∀ x ∈ r, (Lit.int .i64 x).wf = true)
    (hk : ∀ A, On w0 A R → Ke.KeysAt A a ks) (hwf : ∀ k ∈ ks, (Lit.int .i64 k.2).wf = true) (hcap : ks.length ≤ cap) (hcm : cap ≤ 9223372036854775807) :
    Calls Try.prog 60 #[.slice ra r.length rc, .slice a ks.length cap] w fun e w' => ∃ va vc, e = .returned (.tuple #[.slice va r.length vc, .int .i64 0]) ∧ On w0 w' (sep (intsA (.slice va r.length vc) a') R) := by
  have hf := both_fine hb
  have hl := hf.g.few
  have hl2 := (work_ok hf.w).2.1
  refine (place_ok (rc := rc) h hr (by omega) hrw hk hwf hcap hcm (by omega)).mono ?_
  rintro e w' ⟨v, rfl, _, h2⟩
  have h3 := h2 hb
  rw [hS, hA] at h3
  obtain ⟨va, vc, rfl, _⟩ := h3.ints_read
  have hlen : a'.length = r.length := by rw [← hA, placeL_length]
  rw [hlen] at h3
  exact ⟨va, vc, by rw [hb, hlen], h3⟩
end
end Go.Proofs.Ytkjpkhpiojahkaa
