/- contracts of RoutePermutation, both -/
import Derived.Test.YtnmkficfbnnakaaDoorRouteS
namespace Go.Proofs.YtnmkficfbnnakaaDoor
open Go.RowKit
def routeR (p : List Int) : List Bool := if permB p then routeV p else []
theorem routeV_len {p : List Int} (h : permB p = true) : (routeV p).length = (swc p.length).toNat := by
  obtain ⟨hp, hc⟩ := permB_perm h
  unfold routeV
  rcases hc with e | e | e | e
  · rw [if_pos e, e]; rfl
  · rw [if_neg (by omega), if_pos e, e]; rfl
  · rw [if_neg (by omega), if_neg (by omega), if_pos e, route4_len (e ▸ hp), e]; rfl
  · rw [if_neg (by omega), if_neg (by omega), if_neg (by omega), route8_len (e ▸ hp), e]; rfl
theorem routeR_le (p : List Int) : (routeR p).length ≤ 20 := by
  unfold routeR
  split
  · rename_i h
    rw [routeV_len h]
    obtain ⟨_, e | e | e | e⟩ := permB_perm h <;> rw [e] <;> decide
  · simp
theorem routes_any {F : Nat} (h1 : Routes F 1 (fun _ => [])) (h2 : Routes F 2 route2) (h4 : Routes F 4 route4) (h8 : Routes F 8 route8) (v : Value) (p : List Int) (w : World) (hI : Ints w v p) (hk : permB p = true) :
    Calls Tryd.prog F #[v] w (BoolsPost (routeV p) w) := by
  obtain ⟨hp, hc⟩ := permB_perm hk
  unfold routeV
  rcases hc with e | e | e | e
  · rw [if_pos e]; rw [e] at hp; exact h1 v p w hI hp
  · rw [if_neg (by omega), if_pos e]; rw [e] at hp; exact h2 v p w hI hp
  · rw [if_neg (by omega), if_neg (by omega), if_pos e]; rw [e] at hp; exact h4 v p w hI hp
  · rw [if_neg (by omega), if_neg (by omega), if_neg (by omega)]; rw [e] at hp; exact h8 v p w hI hp
theorem route_all (v : Value) (p : List Int) (w : World) (hI : Ints w v p) (hk : permB p = true) : Calls Tryd.prog 26 #[v] w (BoolsPost (routeV p) w) :=
  have h4 : Routes 26 4 route4 := route_step_any 2 1 (.inl rfl) route2 (by omega) (fun _ _ => rfl) route_2
  routes_any route_1 route_2 h4 (route_step_any 4 6 (.inr rfl) route4 (by omega) (fun q hq => route4_len hq) h4) v p w hI hk
theorem routeS_all (v : Value) (p : List Int) (w : World) (hI : Ints w v p) (hk : permB p = true) : Calls Tryd.prog 27 #[v] w (BoolsPost (routeV p) w) :=
  have h4 : Routes 27 4 route4 := routeS_step 2 1 (.inl rfl) route2 (by omega) (fun _ _ => rfl) routeS_2
  routes_any routeS_1 routeS_2 h4 (routeS_step 4 6 (.inr rfl) route4 (by omega) (fun q hq => route4_len hq) h4) v p w hI hk
theorem impl_RoutePermutation (v : Value) (p : List Int) (w : World) (hI : Ints w v p) : Calls Tryd.prog 12 #[v] w (BoolsPost (routeR p) w) := by
  have HI := Lib.hid hI
  obtain ⟨a1, c1, hv, hm1, _⟩ := hI.open
  subst hv
  unfold maxLen at hm1
  clear hI
  cases hk : permB p
  · have HN : Hid (BoolsPost (routeR p) w (.returned (.slice none 0 0)) w) := by
      unfold Hid routeR; rw [hk]; exact ⟨_, rfl, Gr.nil _ _ _ _, Below.refl _ _⟩
    have HK := Lib.hid hk
    clear hk
    go_enter Tryd.func12, Tryd.ntmps12
    go_wp2_with (go_at_call 25; refine (impl_PermValid _ p _ HI.out).mono ?_; rw [HK.out]; rintro e w' ⟨rfl, rfl⟩)
    go_ret
    exact HN.out
  · have HK := Lib.hid hk
    have HF : Hid (routeV p = routeR p) := by unfold Hid routeR; rw [hk]; rfl
    clear hk
    go_enter Tryd.func12, Tryd.ntmps12
    go_wp2_with (first | (go_at_call 25; refine (impl_PermValid _ p _ HI.out).mono ?_; rw [HK.out]; rintro e w' ⟨rfl, rfl⟩) | (go_at_call 26; refine (route_all _ p _ HI.out HK.out).mono ?_; rw [HF.out]; rintro e w' ⟨u, rfl, hg, hb⟩; have HG := Lib.hid hg; have HB := Lib.hid hb; clear hg hb))
    go_ret
    exact ⟨_, rfl, HG.out, HB.out⟩
theorem spec_RoutePermutation (v : Value) (p : List Int) (w : World) (hI : Ints w v p) (hn : p.length ≤ 1048576) : Calls Tryd.prog 14 #[v] w (BoolsPost (routeR p) w) := by
  have HI := Lib.hid hI
  have HLE := Lib.hid hn
  obtain ⟨a1, c1, hv, hm1, _⟩ := hI.open
  subst hv
  unfold maxLen at hm1
  clear hI
  cases hk : permB p
  · have HK := Lib.hid hk
    have HR : Hid (routeR p = []) := by unfold Hid routeR; rw [hk]; rfl
    clear hk
    go_enter Tryd.func14, Tryd.ntmps14
    go_wp2_with fail
    refine (spec_PermValid _ p _ HI.out HLE.out).mono ?_
    rw [HK.out]
    rintro e w1 ⟨rfl, hb⟩
    have HB := Lib.hid hb
    clear hb
    go_wp2
    go_ret
    rw [HR.out]
    exact ⟨_, rfl, (Gr.none0 _ _ _ _ _).low HB.out.size, HB.out.alloc HB.out.size _⟩
  · have HK := Lib.hid hk
    have HF : Hid (routeV p = routeR p) := by unfold Hid routeR; rw [hk]; rfl
    clear hk
    go_enter Tryd.func14, Tryd.ntmps14
    go_wp2_with fail
    refine (spec_PermValid _ p _ HI.out HLE.out).mono ?_
    rw [HK.out]
    rintro e w1 ⟨rfl, hb⟩
    have HB := Lib.hid hb
    have HI1 := Lib.hid (HI.out.mono hb (Nat.le_refl _))
    clear hb
    go_wp2_with fail
    refine (routeS_all _ p _ HI1.out HK.out).mono ?_
    rw [HF.out]
    rintro e w2 ⟨u, rfl, hg, hb⟩
    have HG := Lib.hid hg
    have HB2 := Lib.hid hb
    clear hg hb
    go_wp2
    go_ret
    exact ⟨_, rfl, HG.out.low HB.out.size, HB.out.trans (HB2.out.mono HB.out.size)⟩
theorem bools_own {xs : List Bool} {w w' : World} {e : Ending} (h : BoolsPost xs w e w') : ∃ v b, e = .returned v ∧ OwnB w' b v xs ∧ From w.heap.size b ∧ Below w.heap.size w w' := by
  obtain ⟨u, he, hg, hb⟩ := h
  obtain ⟨b, h1, h2, _⟩ := hg.own
  exact ⟨u, b, he, h1, h2, hb⟩
theorem impl_RoutePermutation_own (v : Value) (p : List Int) (w : World) (hI : Ints w v p) (_ : p.length ≤ 1048576) :
    Calls Tryd.prog 12 #[v] w fun e w' => ∃ v b, e = .returned v ∧ OwnB w' b v (routeR p) ∧ From w.heap.size b ∧ Below w.heap.size w w' := (impl_RoutePermutation v p w hI).mono fun _ _ h => bools_own h
theorem spec_RoutePermutation_own (v : Value) (p : List Int) (w : World) (hI : Ints w v p) (hn : p.length ≤ 1048576) :
    Calls Tryd.prog 14 #[v] w fun e w' => ∃ v b, e = .returned v ∧ OwnB w' b v (routeR p) ∧ From w.heap.size b ∧ Below w.heap.size w w' := (spec_RoutePermutation v p w hI hn).mono fun _ _ h => bools_own h
end Go.Proofs.YtnmkficfbnnakaaDoor
