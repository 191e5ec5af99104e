/-
  Place: the library's Index, Contains, IndexFunc, ContainsFunc, Repeat as place uses them.
-/
import Derived.Test.YtkjpkhpiojahkaaPc3
import Derived.Laws.CopyOwn
namespace Go.Proofs.Ytkjpkhpiojahkaa
set_option linter.unusedVariables false
open Go.RowKit Hp
attribute [local go_sem] Oper.semAt_some
set_option maxRecDepth 100000 in
set_option maxHeartbeats 4000000 in
theorem index_ok (a : Option Addr) (c : Nat) (zs : List Int) (id : Int) (w : World) (h : IntsAt w a zs) (hl : zs.length < 1000000) :
    Calls Try.prog 121 #[.slice a zs.length c, .int .i64 id] w fun e w' => e = .returned (.int .i64 (atI zs id)) ∧ Below w.heap.size w w' := by
  obtain ⟨n, hn⟩ : ∃ n, zs.length = n := ⟨_, rfl⟩
  rw [hn] at hl ⊢
  have HC := Lib.hid h
  have HN := Lib.hid hn
  clear h hn
  go_enter Try.func121, Try.ntmps121
  go_wp2_with fail
  go_loopg [8] n (fun gh s8 wr => ∃ i : Nat, i + gh = n ∧ s8 = .int .i64 (i : Int) ∧ Below w.heap.size w wr ∧ ∀ j, j < i → zs[j]? ≠ some id)
  case atStart => exact ⟨0, by omega, rfl, Below.refl _ _, fun j hj => by omega⟩
  case round =>
    obtain ⟨i, hi, rfl, hb, hne⟩ := hrel
    have HB := Lib.hid hb
    have HNe := Lib.hid hne
    by_cases hlt : i < n
    · have hltI : (i : Int) < (n : Int) := by omega
      have hi0 : (0 : Int) ≤ (i : Int) := by omega
      obtain ⟨b, off, rfl, hbl, hc⟩ := HC.out.row (by rw [HN.out]; omega)
      obtain ⟨x, hx⟩ : ∃ x, zs[i]? = some x := ⟨_, List.getElem?_eq_getElem (by rw [HN.out]; exact hlt)⟩
      have q0 : wr.cell? ⟨b, off + i, none⟩ = some (.int .i64 x) := by
        have := hc i (by rw [HN.out]; exact hlt)
        rw [hx] at this
        exact (hb.cell (by exact hbl)).trans this
      have HX := Lib.hid hx
      clear hb hne hbl hc hx
      by_cases hxi : x = id
      · subst hxi
        have z : (x == x) = true := by simp
        have HAt := Lib.hid (atI_found HX.out HNe.out)
        go_wp2_with fail
        rw [HAt.out]
        go_ret
        exact ⟨rfl, HB.out⟩
      · have z : (id == x) = false := by simpa using fun e : id = x => hxi e.symm
        have HXi := Lib.hid hxi
        clear hxi
        go_wp2_with fail
        go_roundg (n - (i + 1))
        case measure => omega
        case rel => exact ⟨i + 1, by omega, by go_num, HB.out, fun j hj => by
          by_cases hji : j = i
          · rw [hji, HX.out]
            exact fun h => HXi.out (Option.some.inj h)
          · exact HNe.out j (by omega)⟩
    · have hin : i = n := by omega
      subst hin
      have HAt := Lib.hid (atI_none (r := zs) (id := id) (by rw [HN.out]; exact hne))
      clear hb hne
      go_wp2_with fail
      rw [HAt.out]
      go_ret
      exact ⟨rfl, HB.out⟩
theorem atI_neg (zs : List Int) (id : Int) : decide (0 ≤ atI zs id) = decide (id ∈ zs) := by
  unfold atI
  by_cases h : id ∈ zs
  · rw [if_pos h, decide_eq_true h]
    simp
  · rw [if_neg h, decide_eq_false h]
    rfl
theorem contains_ok (a : Option Addr) (c : Nat) (zs : List Int) (id : Int) (w : World) (h : IntsAt w a zs) (hl : zs.length < 1000000) :
    Calls Try.prog 117 #[.slice a zs.length c, .int .i64 id] w fun e w' => e = .returned (.bool (decide (id ∈ zs))) ∧ Below w.heap.size w w' := by
  have HI := Lib.hid (index_ok a c zs id w h hl)
  have HE := Lib.hid (atI_neg zs id)
  obtain ⟨at', hat⟩ : ∃ x, atI zs id = x := ⟨_, rfl⟩
  rw [hat] at HI HE
  clear h hat
  go_enter Try.func117, Try.ntmps117
  go_wp2_with fail
  refine HI.out.mono ?_
  rintro e w1 ⟨rfl, hb⟩
  have HB := Lib.hid hb
  clear hb
  go_wp2_with fail
  rw [← HE.out]
  go_ret
  exact ⟨rfl, HB.out⟩
/-- the closure that asks for a server: its captured number lies at ib -/
theorem asks_ok (ib : Nat) (id t k : Int) (w : World) (h : w.cell? ⟨ib, 0, none⟩ = some (.int .i64 id)) :
    Calls Try.prog 115 #[.agg #[.int .i64 t, .int .i64 k], .pointer (some ⟨ib, 0, none⟩)] w fun e w' => e = .returned (.bool (decide (k = id))) ∧ Below w.heap.size w w' := by
  obtain ⟨b, hb'⟩ : ∃ b, w.heap.size = b := ⟨_, rfl⟩
  obtain ⟨W, hW⟩ : ∃ W, w.alloc (.cells #[.int .i64 t, .int .i64 k] 24) = W := ⟨_, rfl⟩
  have hbl : Below w.heap.size w W := by rw [← hW]; exact (Below.refl _ w).alloc (Nat.le_refl _) _
  have h1 := (On.emp w).new1 24 #[.int .i64 t, .int .i64 k]
  rw [hW, hb'] at h1
  have c00 := (h1).bx 0 rfl
  have c01 := (h1).bx 1 rfl
  have k0 := zatB h hbl
  have HB := Lib.hid hbl
  have e : decide (k = id) = (k == id) := by simp [BEq.beq]
  rw [e]
  clear h hbl h1 e
  go_enter Try.func115, Try.ntmps115
  go_wp2_with fail
  go_ret
  exact ⟨rfl, HB.out⟩
set_option maxRecDepth 100000 in
set_option maxHeartbeats 4000000 in
theorem indexf_ok (a : Option Addr) (c : Nat) (ks : List (Int × Int)) (ib : Nat) (id : Int) (w : World) (h : Ke.KeysAt w a ks) (hl : ks.length < 1000000) (hi : w.cell? ⟨ib, 0, none⟩ = some (.int .i64 id)) :
    Calls Try.prog 151 #[.slice a ks.length c, .func (.func 115) #[] #[.pointer (some ⟨ib, 0, none⟩)]] w fun e w' => e = .returned (.int .i64 (atI (ks.map (·.2)) id)) ∧ Below w.heap.size w w' := by
  obtain ⟨n, hn⟩ : ∃ n, ks.length = n := ⟨_, rfl⟩
  rw [hn] at hl ⊢
  have HC := Lib.hid h
  have HN := Lib.hid hn
  have HI := Lib.hid hi
  have hE : ∀ (args : Array Value) (w : World), (callFunc 115 args).run Try.prog w = .ok (.enter 115 args) w := enters_of Try.func115 (by kernel_rfl) rfl
  clear h hn hi
  go_enter Try.func151, Try.ntmps151
  go_wp2_with fail
  go_loopg [8] n (fun gh s8 wr => ∃ i : Nat, i + gh = n ∧ s8 = .int .i64 (i : Int) ∧ Below w.heap.size w wr ∧ ∀ j, j < i → (ks.map (·.2))[j]? ≠ some id)
  case atStart => exact ⟨0, by omega, rfl, Below.refl _ _, fun j hj => by omega⟩
  case round =>
    obtain ⟨i, hi, rfl, hb, hne⟩ := hrel
    have HB := Lib.hid hb
    have HNe := Lib.hid hne
    by_cases hlt : i < n
    · have hltI : (i : Int) < (n : Int) := by omega
      have hi0 : (0 : Int) ≤ (i : Int) := by omega
      obtain ⟨b, off, rfl, hbl, hc⟩ := keysAt_get HC.out (n := n) (by omega) HN.out
      obtain ⟨x, hx⟩ : ∃ x, ks[i]? = some x := ⟨_, List.getElem?_eq_getElem (by rw [HN.out]; exact hlt)⟩
      obtain ⟨hc0, hc1⟩ := hc i hlt
      rw [hx, Option.getD_some] at hc0 hc1
      have q0 : wr.cell? ⟨b, off + i * 2, none⟩ = some (.int .i64 x.1) := (hb.cell (by exact hbl)).trans hc0
      have q1 : wr.cell? ⟨b, off + i * 2 + 1, none⟩ = some (.int .i64 x.2) := (hb.cell (by exact hbl)).trans hc1
      have hxm : (ks.map (·.2))[i]? = some x.2 := by rw [List.getElem?_map, hx]; rfl
      have HX := Lib.hid hxm
      have has := asks_ok ib id x.1 x.2 wr (zatB HI.out hb)
      by_cases hxi : x.2 = id
      · rw [decide_eq_true hxi] at has
        have HAs := Lib.hid has
        have HAt := Lib.hid (atI_found (by rw [← hxi]; exact HX.out : (ks.map (·.2))[i]? = some id) HNe.out)
        clear hb hne hbl hc hx hc0 hc1 hxm has hxi
        go_wp2_with fail
        refine HAs.out.mono ?_
        rintro e x1 ⟨rfl, hb1⟩
        have HB1 := Lib.hid hb1
        clear hb1
        go_wp2_with fail
        rw [HAt.out]
        go_ret
        exact ⟨rfl, HB.out.trans (HB1.out.mono HB.out.size)⟩
      · rw [decide_eq_false hxi] at has
        have HAs := Lib.hid has
        have HXi := Lib.hid hxi
        clear hb hne hbl hc hx hc0 hc1 hxm has hxi
        go_wp2_with fail
        refine HAs.out.mono ?_
        rintro e x1 ⟨rfl, hb1⟩
        have HB1 := Lib.hid hb1
        clear hb1
        go_wp2_with fail
        go_roundg (n - (i + 1))
        case measure => omega
        case rel => exact ⟨i + 1, by omega, by go_num, HB.out.trans (HB1.out.mono HB.out.size), fun j hj => by
          by_cases hji : j = i
          · rw [hji, HX.out]
            exact fun h => HXi.out (Option.some.inj h)
          · exact HNe.out j (by omega)⟩
    · have hin : i = n := by omega
      subst hin
      have HAt := Lib.hid (atI_none (r := ks.map (·.2)) (id := id) (by rw [List.length_map, HN.out]; exact hne))
      clear hb hne
      go_wp2_with fail
      rw [HAt.out]
      go_ret
      exact ⟨rfl, HB.out⟩
theorem containsf_ok (a : Option Addr) (c : Nat) (ks : List (Int × Int)) (ib : Nat) (id : Int) (w : World) (h : Ke.KeysAt w a ks) (hl : ks.length < 1000000) (hi : w.cell? ⟨ib, 0, none⟩ = some (.int .i64 id)) :
    Calls Try.prog 114 #[.slice a ks.length c, .func (.func 115) #[] #[.pointer (some ⟨ib, 0, none⟩)]] w fun e w' => e = .returned (.bool (decide (id ∈ ks.map (·.2)))) ∧ Below w.heap.size w w' := by
  have HI := Lib.hid (indexf_ok a c ks ib id w h hl hi)
  have HE := Lib.hid (atI_neg (ks.map (·.2)) id)
  obtain ⟨at', hat⟩ : ∃ x, atI (ks.map (·.2)) id = x := ⟨_, rfl⟩
  rw [hat] at HI HE
  obtain ⟨n, hn⟩ : ∃ n, ks.length = n := ⟨_, rfl⟩
  rw [hn] at HI ⊢
  clear h hat hi hn hl
  go_enter Try.func114, Try.ntmps114
  go_wp2_with fail
  refine HI.out.mono ?_
  rintro e w1 ⟨rfl, hb⟩
  have HB := Lib.hid hb
  clear hb
  go_wp2_with fail
  rw [← HE.out]
  go_ret
  exact ⟨rfl, HB.out⟩
set_option maxRecDepth 100000 in
set_option maxHeartbeats 8000000 in
theorem mul1_ok (n : Nat) (w : World) (hn : n ≤ 16) : Calls Try.prog 150 #[.int .u64 1, .int .u64 (n : Int)] w fun e w' => e = .returned (.tuple #[.int .u64 0, .int .u64 (n : Int)]) ∧ w = w' := by
  have : n = 0 ∨ n = 1 ∨ n = 2 ∨ n = 3 ∨ n = 4 ∨ n = 5 ∨ n = 6 ∨ n = 7 ∨ n = 8 ∨ n = 9 ∨ n = 10 ∨ n = 11 ∨ n = 12 ∨ n = 13 ∨ n = 14 ∨ n = 15 ∨ n = 16 := by omega
  rcases this with rfl | rfl | rfl | rfl | rfl | rfl | rfl | rfl | rfl | rfl | rfl | rfl | rfl | rfl | rfl | rfl | rfl
  all_goals
    go_enter Try.func150, Try.ntmps150
    go_wp2
    go_ret2
    exact ⟨by kernel_rfl, rfl⟩
end Go.Proofs.Ytkjpkhpiojahkaa
