/- The law ShadeOver of layer 4 (shade). -/
import Derived.Test.YtcaepigodglihaaSha2
namespace Go.Proofs.Ytcaepigodglihaa
open Go Go.Pw

theorem awake04 : Instarlaw04_awake_m 2000 = some true := by decide +kernel
/-- Who holds one is over it. -/
theorem holds_over {ns : List Node} (T : Tree ns) (U : TreeU ns) : ∀ x, InN ns x → ∀ y ∈ way ns x, y ∈ wayU ns x := T.up_ind fun x hx ih y hy => by
  rw [T.way_eq hx] at hy
  rw [U.wayU_eq hx]
  rcases List.mem_cons.1 hy with rfl | hy
  · simp
  · by_cases hp : parI ns x = -1
    · rw [if_pos hp] at hy; simp at hy
    · rw [if_neg hp] at hy
      have e := upI_par hp
      rw [if_neg (by rw [e]; exact hp), e]
      exact List.mem_cons_of_mem _ (ih hp y hy)
section
variable {f : Forest} {fu : Nat} (hs : Small f) (hfu : 1000 < fu) (hr : frightB f = true)
include hs hfu hr
theorem over_j1 {x : Int} (hx : InN f.Nodes x) : Instarlaw04_ShadeOver_j1 fu f x () = some true := by
  have U := right_full hr
  have hn := (right_parts hr).2.2.1
  obtain ⟨y, hy⟩ := idx_some hx
  have hu := upI_at hy
  unfold Instarlaw04_ShadeOver_j1
  rw [hy, bnd_some, cnd_eq, cnd_ne, cnd_ne]
  have step : ∀ p : Int, upI f.Nodes x = p → p ≠ -1 → InN f.Nodes p ∧ topN f.Nodes x = topN f.Nodes p ∧ connB f.Nodes x = connB f.Nodes p := fun p hp hne => by
    have h1 := (U.par x hx (by rw [hp]; exact hne)).1
    rw [hp] at h1
    have h2 : topN f.Nodes x = topN f.Nodes p := by rw [U.root_eq hx, if_neg (by rw [hp]; exact hne), hp]
    exact ⟨h1, h2, by unfold connB; rw [h2]⟩
  have stay : upI f.Nodes x = -1 → topN f.Nodes x = x ∧ connB f.Nodes x = (y.Kind == 0) := fun h => by
    have h2 := U.root_top hx h
    refine ⟨h2, ?_⟩
    unfold connB isB; rw [h2, hy]
  rw [Conn_ok hs hfu hr hx, Top_ok hs hfu hr hx]
  by_cases h0 : y.Kind = 0
  · have hpar : y.Parent = -1 := by
      have h3 := nodes_at hn hy
      unfold nodeB hungB at h3
      simp only [Bool.and_eq_true, Bool.or_eq_true, beq_iff_eq] at h3
      rcases h3.2.2.1 with h | ⟨h | h, _⟩
      · exact h
      · omega
      · omega
    have hhost : y.Host = -1 := by
      by_cases h : y.Host = -1
      · exact h
      · obtain ⟨_, _, _, _, _, h4⟩ := host_at hn hy h
        omega
    obtain ⟨s1, s2⟩ := stay (by rw [hu, if_pos hpar]; exact hhost)
    rw [if_pos h0, bnd_some, bnd_some, s1, s2, h0]
    simp
  · rw [if_neg h0]
    by_cases hp : y.Parent = -1
    · rw [if_pos hp]
      rw [if_pos hp] at hu
      by_cases hh : y.Host = -1
      · obtain ⟨s1, s2⟩ := stay (by rw [hu]; exact hh)
        have e0 : (y.Kind == 0) = false := beq_eq_false_iff_ne.2 h0
        rw [if_pos hh, bnd_some, bnd_some, s1, s2, e0]
        simp
      · obtain ⟨s0, s1, s2⟩ := step _ hu hh
        rw [if_neg hh, bnd_some, Conn_ok hs hfu hr s0, bnd_some, bnd_some, Top_ok hs hfu hr s0, bnd_some, s1, s2]
        simp
    · rw [if_neg hp] at hu
      obtain ⟨s0, s1, s2⟩ := step _ hu hp
      rw [if_neg hp, bnd_some, Conn_ok hs hfu hr s0, bnd_some, bnd_some, Top_ok hs hfu hr s0, bnd_some, s1, s2]
      simp
end
theorem shadeOver (f : Forest) (a b c : Int) (ha : 0 ≤ a ∧ a ≤ 255) (hb : 0 ≤ b ∧ b ≤ 255) (hc : 0 ≤ c ∧ c ≤ 255) : ∃ fu, Instarlaw04_ShadeOver_m fu f a b c = some true := by
  refine ⟨2000, ?_⟩
  unfold Instarlaw04_ShadeOver_m
  rw [awake04, bnd_some, Bool.not_true, cnd_false]
  generalize hfu' : (2000 : Nat) = fu
  have hfu : 1000 < fu := by omega
  obtain ⟨r, h1, h2⟩ := short_small (fu := fu) (f := f) hfu
  rw [h1, bnd_some]
  cases r with
  | false => rfl
  | true =>
    have hs := h2 rfl
    rw [Bool.not_true, cnd_false, fright_ok hfu (hs.fit hfu), bnd_some]
    cases hr : frightB f with
    | false => rfl
    | true =>
      have T := right_tree hr
      have U := right_full hr
      have hn := (right_parts hr).1
      obtain ⟨x, ex, hx⟩ := rem_ok ha.1 hn
      obtain ⟨y, ey, hy⟩ := rem_ok hb.1 hn
      obtain ⟨z, ez, hz⟩ := rem_ok hc.1 hn
      have hx : InN f.Nodes x := hx
      have hy : InN f.Nodes y := hy
      have hz : InN f.Nodes z := hz
      rw [Bool.not_true, cnd_false, rng64 (by omega) (by omega), bnd_some, ex, bnd_some, rng64 (by omega) (by omega), bnd_some, ey, bnd_some, rng64 (by omega) (by omega), bnd_some, ez, bnd_some]
      rw [Over_ok hs hfu hr hx hx, bnd_some, overU_iff.2 (U.wayU_self hx), Bool.not_true, cnd_false, Over_ok hs hfu hr hx hy, bnd_some, Over_ok hs hfu hr hy hx, Over_ok hs hfu hr hy hz, Over_ok hs hfu hr hx hz, Holds_ok hs hfu hr hx hy]
      simp only [bnd_some, over_j1 hs hfu hr hx, cnd_ne]
      have hold : cnd (holdsB f.Nodes x y) (cnd (!overU f.Nodes x y) (some false) (some true)) (some true) = some true := by
        cases h1 : holdsB f.Nodes x y with
        | false => rfl
        | true => rw [overU_iff.2 (holds_over T U y hy x (holdsB_iff.1 h1))]; rfl
      rw [hold]
      have last : (if x = y then some true else cnd (overU f.Nodes x y) (cnd (overU f.Nodes y x) (some false) (some true)) (some true)) = some true := by
        by_cases h : x = y
        · rw [if_pos h]
        · rw [if_neg h]
          cases h1 : overU f.Nodes x y with
          | false => rfl
          | true =>
            cases h2 : overU f.Nodes y x with
            | false => rfl
            | true => exact absurd (U.wayU_anti hy (overU_iff.1 h1) (overU_iff.1 h2)) h
      rw [last]
      cases h1 : overU f.Nodes x y with
      | false => rfl
      | true =>
        rw [cnd_true]
        cases h2 : overU f.Nodes y z with
        | false => rfl
        | true =>
          rw [overU_iff.2 (U.wayU_trans hz (overU_iff.1 h1) (overU_iff.1 h2))]
          rfl
end Go.Proofs.Ytcaepigodglihaa
