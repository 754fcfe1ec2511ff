/- What is put by hand: the forest that comes of it, node by node. -/
import Derived.Test.YtcaepigodglihaaSwa2
namespace Go.Proofs.Ytcaepigodglihaa
open Go Go.Pw

/-- A list of nodes that comes of another one, node by node. -/
structure At (a b : List Node) (h : Int → Node → Node) : Prop where
  len : b.length = a.length
  at_ : ∀ j w, idx a j = some w → idx b j = some (h j w)
theorem At.set {a b : List Node} {h : Int → Node → Node} (H : At a b h) {c : Int} (hc : 0 ≤ c ∧ c < a.length) (v : Node) : At a (b.set c.toNat v) (fun j w => if j = c then v else h j w) where
  len := by rw [List.length_set, H.len]
  at_ j w hw := by
    by_cases hj : j = c
    · subst hj
      rw [if_pos rfl, idx_seteq (by rw [H.len]; exact hc)]
    · rw [if_neg hj, idx_setne hc.1 hj, H.at_ j w hw]
theorem At.congr {a b : List Node} {h h' : Int → Node → Node} (H : At a b h) (e : ∀ j w, idx a j = some w → h j w = h' j w) : At a b h' where
  len := H.len
  at_ j w hw := by rw [H.at_ j w hw, e j w hw]
def outN (M : List Int) (j : Int) (w : Node) : Node := ⟨w.Kind, w.Name, w.Is, w.Data, w.Attrs, if M.contains j = true then -1 else w.Parent, w.Kids.filter (fun k => !(M.contains k)), w.Host, w.Under, w.Doc⟩
theorem out_gen {l : List Node} {most : Int} {fu : Nat} {c : Int} {z y : Node} (hz : idx l c = some z) (hy : idx l z.Parent = some y) (hne : c ≠ z.Parent) (hf : y.Kids.length < fu) (hb : y.Kids.length ≤ 1000000) : Instarlaw05_out_m fu most c l = some ⟨(l.set z.Parent.toNat (lessN y c)).set c.toNat (freeN' z), most⟩ := by
  have hyr := idx_range hy
  unfold Instarlaw05_out_m
  rw [hz, bnd_some, cnd_eq, if_neg (by omega)]
  have := upf (L := Instarlaw05_out_l1 most c l z) (f := fun i => ((i : Int), (y.Kids.take i).filter (fun k => k != c))) (v := some ⟨(l.set z.Parent.toNat (lessN y c)).set c.toNat (freeN' z), most⟩) y.Kids.length (fun i hi k => ?_) (fun k => ?_) hf
  · simpa using this
  · have hlen : ((y.Kids.take i).filter (fun k => k != c)).length ≤ i := Nat.le_trans (List.length_filter_le _ _) (by simp; omega)
    have hrng : rng .i64 ((i : Int) + 1) = some ((i + 1 : Nat) : Int) := rng_nat (by omega)
    simp only [Instarlaw05_out_l1]
    rw [hy, bnd_some, cnd_pos (by simpa using hi), bnd_some, idx_lt hi, bnd_some, cnd_ne, hrng, bnd_some, List.take_succ_eq_append_getElem hi, List.filter_append]
    by_cases h : y.Kids[i] = c
    · rw [if_pos h]; simp [h]
    · rw [if_neg h, bnd_some, idx_lt hi, bnd_some, roomy_ok (by simp only [List.length_cons, List.length_nil]; omega), bnd_some, bnd_some]; simp [h]
  · simp only [Instarlaw05_out_l1]
    rw [hy, bnd_some, cnd_neg (by simp), bnd_some, List.take_length, idx_setne hyr.1 hne, hz, bnd_some]
    rfl
theorem contains_snoc (M : List Int) (c k : Int) : (M ++ [c]).contains k = (M.contains k || k == c) := by
  rw [Bool.eq_iff_iff, List.contains_iff_mem, Bool.or_eq_true, List.contains_iff_mem, beq_iff_eq, List.mem_append, List.mem_singleton]
theorem fil_snoc (l M : List Int) (c : Int) : l.filter (fun k => !((M ++ [c]).contains k)) = (l.filter (fun k => !(M.contains k))).filter (fun k => k != c) := by
  rw [List.filter_filter]
  refine List.filter_congr fun k _ => ?_
  rw [contains_snoc]
  cases M.contains k <;> cases hk : k == c <;> simp [bne, hk]
theorem fil_none {l M : List Int} {c : Int} (h : c ∉ l) : l.filter (fun k => !((M ++ [c]).contains k)) = l.filter (fun k => !(M.contains k)) := by
  refine List.filter_congr fun k hk => ?_
  have : (k == c) = false := beq_eq_false_iff_ne.2 fun e => h (e ▸ hk)
  rw [contains_snoc, this, Bool.or_false]
section
variable {f : Forest} (hr : frightB f = true)
include hr
theorem kid_par {j c : Int} {w z : Node} (hw : idx f.Nodes j = some w) (hz : idx f.Nodes c = some z) (h : c ∈ w.Kids) : z.Parent = j := by
  have := ((right_tree hr).kid j c (by rw [kids_at hw]; exact h)).2.2
  rwa [par_at hz] at this
theorem kid_ne {j c : Int} {w : Node} (hw : idx f.Nodes j = some w) (h : c ∈ w.Kids) : c ≠ j := fun e => by
  have hk := (right_tree hr).way_kid (n := j) (k := c) (by rw [kids_at hw]; exact h)
  rw [e] at hk
  have := congrArg List.length hk
  simp at this
theorem out_step {fu : Nat} {M : List Int} {c : Int} {z : Node} {g : List Node} (hs : Small f) (hfu : 1000 < fu) (hz : idx f.Nodes c = some z) (hc : c ∉ M) (H : At f.Nodes g (outN M)) : ∃ g', At f.Nodes g' (outN (M ++ [c])) ∧ Instarlaw05_out_m fu f.Most c g = some ⟨g', f.Most⟩ := by
  have T := right_tree hr
  have hzg := H.at_ c z hz
  have hcM : M.contains c = false := by
    cases h : M.contains c with
    | false => rfl
    | true => exact absurd (List.contains_iff_mem.1 h) hc
  have hzp : (outN M c z).Parent = z.Parent := by simp only [outN, hcM]; simp
  by_cases hp : z.Parent = -1
  · refine ⟨g, H.congr fun j w hw => ?_, ?_⟩
    · have hkn : c ∉ w.Kids := fun h => by
        have h1 := kid_par hr hw hz h
        have h2 := (idx_range hw).1
        omega
      unfold outN
      rw [fil_none hkn, contains_snoc]
      by_cases hj : j = c
      · subst hj
        rw [hz] at hw
        obtain rfl := Option.some.inj hw
        simp [hp]
      · rw [beq_eq_false_iff_ne.2 hj, Bool.or_false]
    · unfold Instarlaw05_out_m
      rw [hzg, bnd_some, hzp, cnd_pos (by rw [hp]; rfl)]
  · have hci : InN f.Nodes c := idx_range hz
    obtain ⟨h1, h2⟩ := T.par c hci (by rw [par_at hz]; exact hp)
    rw [par_at hz] at h1 h2
    obtain ⟨u, hu⟩ := idx_some h1
    rw [kids_at hu] at h2
    have hug := H.at_ _ u hu
    have hne := kid_ne hr hu h2
    have hku := hs.kids u (idx_mem hu)
    have hkl : (outN M z.Parent u).Kids.length ≤ 60 := Nat.le_trans (List.length_filter_le _ _) hku
    refine ⟨_, ((H.set h1 (lessN (outN M z.Parent u) c)).set hci (freeN' (outN M c z))).congr fun j w hw => ?_, ?_⟩
    · by_cases hj : j = c
      · subst hj
        rw [hz] at hw
        obtain rfl := Option.some.inj hw
        have hkn : j ∉ z.Kids := fun h => hne (by rw [kid_par hr hz hz h])
        rw [if_pos rfl]
        unfold freeN' outN
        simp only
        rw [fil_none hkn, contains_snoc]
        simp
      · rw [if_neg hj]
        by_cases hj2 : j = z.Parent
        · rw [if_pos hj2]
          rw [hj2, hu] at hw
          obtain rfl := Option.some.inj hw
          unfold lessN outN
          simp only
          rw [fil_snoc, hj2, contains_snoc, beq_eq_false_iff_ne.2 (Ne.symm hne), Bool.or_false]
        · rw [if_neg hj2]
          have hkn : c ∉ w.Kids := fun h => hj2 (kid_par hr hw hz h).symm
          unfold outN
          rw [fil_none hkn, contains_snoc, beq_eq_false_iff_ne.2 hj, Bool.or_false]
    · have := out_gen (most := f.Most) (fu := fu) hzg (y := outN M z.Parent u) (by rw [hzp]; exact hug) (by rw [hzp]; exact hne) (by omega) (by omega)
      rw [hzp] at this
      exact this
theorem put_l1 {fu : Nat} {p r5 : Int} {L : List Int} (hs : Small f) (hfu : 1000 < fu) (hL : ∀ c ∈ L, InN f.Nodes c) (hnd : L.Nodup) (hlen : L.length ≤ 1000) : ∀ (m i k : Nat) (g : List Node), i + m = L.length → m < k → At f.Nodes g (outN (L.take i)) → ∃ g', At f.Nodes g' (outN L) ∧ Instarlaw05_put_l1 fu f p r5 L k ((i : Int), f.Most, g) = Instarlaw05_put_l1 fu f p r5 L 1 (((L.length : Nat) : Int), f.Most, g') := by
  intro m
  induction m with
  | zero =>
    intro i k g hi hk H
    obtain ⟨k, rfl⟩ : ∃ K', k = K' + 1 := ⟨k - 1, by omega⟩
    obtain rfl : i = L.length := by omega
    rw [List.take_length] at H
    refine ⟨g, H, ?_⟩
    simp only [Instarlaw05_put_l1]
    rw [cnd_neg (by simp), cnd_neg (by simp)]
  | succ m ih =>
    intro i k g hi hk H
    obtain ⟨k, rfl⟩ : ∃ K', k = K' + 1 := ⟨k - 1, by omega⟩
    have hil : i < L.length := by omega
    obtain ⟨z, hz⟩ := idx_some (hL _ (List.getElem_mem hil))
    have hcn : L[i] ∉ L.take i := fun h => by
      rw [← List.take_append_drop i L, List.nodup_append] at hnd
      exact hnd.2.2 _ h _ (by rw [List.drop_eq_getElem_cons hil]; exact List.mem_cons_self) rfl
    obtain ⟨g1, H1, e1⟩ := out_step hr hs hfu hz hcn H
    rw [← List.take_succ_eq_append_getElem hil] at H1
    obtain ⟨g', H', e'⟩ := ih (i + 1) k g1 (by omega) (by omega) H1
    refine ⟨g', H', ?_⟩
    have hrng : rng .i64 ((i : Int) + 1) = some ((i + 1 : Nat) : Int) := rng_nat (by omega)
    rw [← e']
    conv => lhs; rw [Instarlaw05_put_l1]
    rw [cnd_pos (by simpa using hil), idx_lt hil, bnd_some, e1, bnd_some, hrng, bnd_some]
end
def docN (A : List Int) (d : Int) (h : Int → Node → Node) (j : Int) (w : Node) : Node := ⟨(h j w).Kind, (h j w).Name, (h j w).Is, (h j w).Data, (h j w).Attrs, (h j w).Parent, (h j w).Kids, (h j w).Host, (h j w).Under, if A.contains j = true then d else (h j w).Doc⟩
theorem put_l3 {f : Forest} {p i d : Int} {y : Node} {A : List Int} {h : Int → Node → Node} {rc : Int × List Node → Option Forest} (hy : idx f.Nodes p = some y) (hd : (h p y).Doc = d) (hA : ∀ a ∈ A, InN f.Nodes a) (hlen : A.length ≤ 1000) : ∀ (m q K : Nat) (g : List Node), q + m = A.length → m < K → At f.Nodes g (docN (A.take q) d h) → ∃ g', At f.Nodes g' (docN A d h) ∧ Instarlaw05_put_l3 p i A rc K ((q : Int), g) = bnd (rng .i64 (i + 1)) fun i34 => rc (i34, g') := by
  intro m
  induction m with
  | zero =>
    intro q K g hq hK H
    obtain ⟨K, rfl⟩ : ∃ K', K = K' + 1 := ⟨K - 1, by omega⟩
    obtain rfl : q = A.length := by omega
    rw [List.take_length] at H
    refine ⟨g, H, ?_⟩
    simp only [Instarlaw05_put_l3]
    rw [cnd_neg (by simp)]
  | succ m ih =>
    intro q K g hq hK H
    obtain ⟨K, rfl⟩ : ∃ K', K = K' + 1 := ⟨K - 1, by omega⟩
    have hql : q < A.length := by omega
    have hai := hA _ (List.getElem_mem hql)
    obtain ⟨w, hw⟩ := idx_some hai
    have hyg := H.at_ p y hy
    have hwg := H.at_ _ w hw
    have hdoc : (docN (A.take q) d h p y).Doc = d := by
      simp only [docN]
      split
      · rfl
      · exact hd
    have hrng : rng .i64 ((q : Int) + 1) = some ((q + 1 : Nat) : Int) := rng_nat (by omega)
    have H1 := (H.set hai ⟨(docN (A.take q) d h A[q] w).Kind, (docN (A.take q) d h A[q] w).Name, (docN (A.take q) d h A[q] w).Is, (docN (A.take q) d h A[q] w).Data, (docN (A.take q) d h A[q] w).Attrs, (docN (A.take q) d h A[q] w).Parent, (docN (A.take q) d h A[q] w).Kids, (docN (A.take q) d h A[q] w).Host, (docN (A.take q) d h A[q] w).Under, d⟩).congr (h' := docN (A.take (q + 1)) d h) fun j v hv => by
      rw [List.take_succ_eq_append_getElem hql]
      by_cases hj : j = A[q]
      · rw [if_pos hj]
        subst hj
        rw [hw] at hv
        obtain rfl := Option.some.inj hv
        unfold docN
        simp only
        rw [contains_snoc]
        simp
      · rw [if_neg hj]
        unfold docN
        rw [contains_snoc, beq_eq_false_iff_ne.2 hj, Bool.or_false]
    obtain ⟨g', H', e'⟩ := ih (q + 1) K _ (by omega) (by omega) H1
    refine ⟨g', H', ?_⟩
    rw [← e']
    conv => lhs; rw [Instarlaw05_put_l3]
    rw [cnd_pos (by simpa using hql), idx_lt hql, bnd_some, hyg, bnd_some, hwg, bnd_some, hrng, bnd_some, hdoc]
def finN (f : Forest) (L : List Int) (p d : Int) (K M : List Int) (j : Int) (w : Node) : Node := ⟨w.Kind, w.Name, w.Is, w.Data, w.Attrs, if M.contains j = true then p else if L.contains j = true then -1 else w.Parent, if j = p then K else w.Kids.filter (fun k => !(L.contains k)), w.Host, w.Under, if (M.any fun c => (allU f.Nodes c).contains j) = true then d else w.Doc⟩
def setPar (w : Node) (p : Int) : Node := ⟨w.Kind, w.Name, w.Is, w.Data, w.Attrs, p, w.Kids, w.Host, w.Under, w.Doc⟩
theorem put_l2 {f : Forest} {fu : Nat} {p : Int} {y : Node} {L K : List Int} (hs : Small f) (hfu : 1000 < fu) (hr : frightB f = true) (hy : idx f.Nodes p = some y) (hL : ∀ c ∈ L, InN f.Nodes c) (hlen : L.length ≤ 1000) : ∀ (m i k : Nat) (g : List Node), i + m = L.length → m < k → At f.Nodes g (finN f L p y.Doc K (L.take i)) → ∃ g', At f.Nodes g' (finN f L p y.Doc K L) ∧ Instarlaw05_put_l2 fu f p L f.Most k ((i : Int), g) = some ⟨g', f.Most⟩ := by
  have U := right_full hr
  have hfew := hs.few
  intro m
  induction m with
  | zero =>
    intro i k g hi hk H
    obtain ⟨k, rfl⟩ : ∃ K', k = K' + 1 := ⟨k - 1, by omega⟩
    obtain rfl : i = L.length := by omega
    rw [List.take_length] at H
    refine ⟨g, H, ?_⟩
    simp only [Instarlaw05_put_l2]
    rw [cnd_neg (by simp)]
  | succ m ih =>
    intro i k g hi hk H
    obtain ⟨k, rfl⟩ : ∃ K', k = K' + 1 := ⟨k - 1, by omega⟩
    have hil : i < L.length := by omega
    have hci := hL _ (List.getElem_mem hil)
    obtain ⟨z, hz⟩ := idx_some hci
    have hzg := H.at_ _ z hz
    have hal := U.all_len hci
    have hain : ∀ a ∈ allU f.Nodes L[i], InN f.Nodes a := fun a ha => (U.all_in _ hci a ha).1
    have H1 := H.set hci (setPar (finN f L p y.Doc K (L.take i) L[i] z) p)
    have hd : ((fun j w => if j = L[i] then setPar (finN f L p y.Doc K (L.take i) L[i] z) p else finN f L p y.Doc K (L.take i) j w) p y).Doc = y.Doc := by
      have hdd : ∀ j, (finN f L p y.Doc K (L.take i) j y).Doc = y.Doc := fun j => by
        simp only [finN]
        split <;> rfl
      simp only
      split
      · rename_i hp
        rw [← hp, hy] at hz
        obtain rfl := Option.some.inj hz
        exact hdd _
      · exact hdd _
    obtain ⟨g1, H2, e2⟩ := put_l3 (i := (i : Int)) (rc := Instarlaw05_put_l2 fu f p L f.Most k) (A := allU f.Nodes L[i]) (h := fun j w => if j = L[i] then setPar (finN f L p y.Doc K (L.take i) L[i] z) p else finN f L p y.Doc K (L.take i) j w) hy hd hain (by omega) (allU f.Nodes L[i]).length 0 fu _ (by omega) (by omega) (H1.congr fun j w hw => by simp [docN])
    have H3 := H2.congr (h' := finN f L p y.Doc K (L.take (i + 1))) fun j w hw => by
      rw [List.take_succ_eq_append_getElem hil]
      unfold docN
      by_cases hj : j = L[i]
      · simp only [if_pos hj]
        subst hj
        rw [hz] at hw
        obtain rfl := Option.some.inj hw
        unfold setPar finN
        simp only
        rw [contains_snoc, List.any_append]
        simp only [List.any_cons, List.any_nil, Bool.or_false, BEq.rfl, Bool.or_true, if_true]
        congr 1
        cases hA : (allU f.Nodes L[i]).contains L[i] <;> simp
      · simp only [if_neg hj]
        unfold finN
        simp only
        rw [contains_snoc, List.any_append, beq_eq_false_iff_ne.2 hj, Bool.or_false]
        simp only [List.any_cons, List.any_nil, Bool.or_false]
        congr 1
        cases hA : (allU f.Nodes L[i]).contains j <;> simp
    obtain ⟨g', H', e'⟩ := ih (i + 1) k g1 (by omega) (by omega) H3
    refine ⟨g', H', ?_⟩
    have hrng : rng .i64 ((i : Int) + 1) = some ((i + 1 : Nat) : Int) := rng_nat (by omega)
    rw [hrng, bnd_some] at e2
    rw [← e', ← e2]
    conv => lhs; rw [Instarlaw05_put_l2]
    rw [cnd_pos (by simpa using hil), idx_lt hil, bnd_some, hzg, bnd_some, bnd_some, All_ok hs hfu hr hci, bnd_some]
    rfl
end Go.Proofs.Ytcaepigodglihaa
