/- Texts laid together. Layer 37, plain: the attack follows the rules, and two values are chosen in it. No program. Layer 37: the program's possible events. Layer 37: Check of the program. Layer 37: what the program's Run keeps beside its run: the row of events. Layer 37, plain: the systems of the laws are given ones. Handed systems and events, as a law's frame opens them. Layer 37: the program's Run. The law SingleRun, walked. Layer 37: the keys of the map of acceptances: a ballot with a value. -/
import Derived.Test.YtgfjmplifmbmlaaDoorGSingleAttack4
import Derived.Test.YtgfjmplifmbmlaaDoorGSingleAttack5
import Derived.Test.YtgfjmplifmbmlaaDoorGSingleAttack6
import Derived.Test.YtgfjmplifmbmlaaDoorGSingleAttack8
import Derived.Test.YtgfjmplifmbmlaaDoorProg
import Derived.OpenShut
import Derived.DeepKeys4
namespace Go.Proofs.YtgfjmplifmbmlaaDoor

theorem supS_has' {l : List (BitVec 16)} {i : Nat} : hasB (supS l) i = true ↔ ∃ x ∈ l, hasB x i = true := by
  have : ∀ (l : List (BitVec 16)) (o : BitVec 16), hasB (l.foldl (· ||| ·) o) i = true ↔ hasB o i = true ∨ ∃ x ∈ l, hasB x i = true := by
    intro l
    induction l with
    | nil => intro o; simp
    | cons y l ih =>
      intro o
      rw [List.foldl_cons, ih, hasB_or, Bool.or_eq_true]
      constructor
      · rintro ((h | h) | ⟨x, hx, h⟩)
        · exact .inl h
        · exact .inr ⟨y, List.mem_cons_self .., h⟩
        · exact .inr ⟨x, List.mem_cons_of_mem _ hx, h⟩
      · rintro (h | ⟨x, hx, h⟩)
        · exact .inl (.inl h)
        · rcases List.mem_cons.1 hx with rfl | hx
          · exact .inl (.inr h)
          · exact .inr ⟨x, hx, h⟩
  unfold supS
  rw [this]
  simp [hasB]
theorem off_lt {m : Nat} {f : List (BitVec 16)} (h : offB m f = false) {x : BitVec 16} (hx : x ∈ f) {i : Nat} (hi : hasB x i = true) : i < m := by
  unfold offB at h
  rw [shr_big, decide_eq_false_iff_not] at h
  apply Classical.byContradiction
  intro hge
  have h1 : hasB (supS f) i = true := supS_has'.2 ⟨x, hx, hi⟩
  rw [hasB_nat] at h1
  have h2 := Nat.ge_two_pow_of_testBit h1
  have h3 : 2 ^ m ≤ 2 ^ i := Nat.pow_le_pow_right (by decide) (by omega)
  omega
theorem chk2_ok {m : Nat} (hm : m ≤ 12) {f g : List (BitVec 16)} (h : chkS m [f, g] = 0) : 1 ≤ m ∧ valS f = 0 ∧ valS g = 0 ∧ (∀ x ∈ f, ∀ i, hasB x i = true → i < m) ∧ (∀ x ∈ g, ∀ i, hasB x i = true → i < m) ∧ hasZ f = false ∧ hasZ g = false := by
  by_cases h1 : 1 ≤ m
  · rw [chk2 m h1 hm] at h
    by_cases hf : valS f = 0
    · rw [if_neg (by rw [hf]; decide)] at h
      by_cases hg : valS g = 0
      · rw [if_neg (by rw [hg]; decide)] at h
        cases ho : (offB m f || offB m g)
        · rw [ho, if_neg (by decide)] at h
          cases hz : (hasZ f || hasZ g)
          · rw [Bool.or_eq_false_iff] at ho hz
            exact ⟨h1, hf, hg, fun x hx i hi => off_lt ho.1 hx hi, fun x hx i hi => off_lt ho.2 hx hi, hz.1, hz.2⟩
          · rw [hz, if_pos rfl] at h; cases h
        · rw [ho, if_pos rfl] at h; cases h
      · rw [if_pos hg] at h; exact absurd h hg
    · rw [if_pos hf] at h; exact absurd h hf
  · exfalso
    unfold chkS at h
    rw [if_pos (by omega)] at h; cases h
theorem zero_not {f : List (BitVec 16)} (h : hasZ f = false) {x : BitVec 16} (hx : x ∈ f) : ∃ i, hasB x i = true := by
  apply Classical.byContradiction
  intro hn
  have h0 : x = 0#16 := hasB_ext fun p _ => by
    rw [hasB_zero]
    cases hq : hasB x p
    · rfl
    · exact absurd ⟨p, hq⟩ hn
  unfold hasZ at h
  rw [List.any_eq_false] at h
  exact h x hx (by rw [h0]; rfl)

/-! promises, one behind another -/
theorem evP_fol {read : List (BitVec 16)} {m : Nat} {l : List Ev} {b s : Nat} (hb : 1 ≤ b) (hs : s < m) (hp : (atS (repA m l) s).prom < b) : folS read m l (evP b s) = true := by
  unfold folS
  rw [if_neg (by show ¬ ((s : Int) < 0 ∨ (m : Int) ≤ (s : Int) ∨ (b : Int) < 1); omega), if_pos (show (evP b s).kind = 1 from rfl), Bool.and_eq_true]
  exact ⟨decide_eq_true hp, by show emB ⟨#[]⟩ = true; decide +kernel⟩
theorem evP_step {read : List (BitVec 16)} {m : Nat} (hm : m ≤ 12) {l : List Ev} {b s : Nat} (hg : Good read m l) (hb : 1 ≤ b) (hs : s < m) (hp : (atS (repA m l) s).prom < b) :
    Good read m (l ++ [evP b s]) ∧ stOf m (l ++ [evP b s]) = addP1 (stOf m l) (evP b s) := by
  have hf := evP_fol (read := read) hb hs hp
  refine ⟨.snoc hg hf, ?_⟩
  have h2 := (fol_step hm (good_inv hm hg) hf).2
  unfold addP at h2
  rw [if_neg (by show ¬ ((s : Int) < 0 ∨ ((repA m l).length : Int) ≤ (s : Int) ∨ (b : Int) < 1); rw [repA_len]; omega), if_pos (show (evP b s).kind = 1 from rfl), if_pos] at h2
  · exact (Option.some.inj h2).symm
  · rw [Bool.and_eq_true]; exact ⟨decide_eq_true hp, by show emB ⟨#[]⟩ = true; decide +kernel⟩
theorem prom_run {read : List (BitVec 16)} {m : Nat} (hm : m ≤ 12) {b : Nat} (hb : 1 ≤ b) : ∀ (P : List Nat) (l : List Ev), Good read m l → P.Nodup → (∀ s ∈ P, s < m ∧ (atS (repA m l) s).prom < b) →
    Good read m (l ++ P.map (evP b)) ∧ (∀ t : Nat, atS (repA m (l ++ P.map (evP b))) t = if t ∈ P then { atS (repA m l) t with prom := b } else atS (repA m l) t) ∧
    repS m (l ++ P.map (evP b)) b = repS m l b ++ P.map (fun (s : Nat) => repOf s (atS (repA m l) s)) ∧ (∀ b', b' ≠ (b : Int) → repS m (l ++ P.map (evP b)) b' = repS m l b') ∧ ∀ b', valF (l ++ P.map (evP b)) b' = valF l b' := by
  intro P
  induction P with
  | nil => intro l hg _ _; simp [hg]
  | cons s P ih =>
    intro l hg hnd hP
    obtain ⟨hs, hp⟩ := hP s (List.mem_cons_self ..)
    obtain ⟨hg1, hst⟩ := evP_step hm hg hb hs hp
    have hnd1 := (List.nodup_cons.1 hnd)
    have hne : ∀ t, t ∈ P → t ≠ s := fun t ht e => hnd1.1 (by rw [← e]; exact ht)
    have hacc : repA m (l ++ [evP b s]) = (repA m l).set s { atS (repA m l) s with prom := b } := by
      have := congrArg St.acc hst; exact this
    have hat : ∀ t : Nat, atS (repA m (l ++ [evP b s])) t = if t = s then { atS (repA m l) s with prom := b } else atS (repA m l) t := by
      intro t
      rw [hacc]
      have := atS_set (l := repA m l) (s := (s : Int)) (t := (t : Int)) (a := { atS (repA m l) s with prom := b }) (by omega) (by rw [repA_len]; omega) (by omega)
      rw [show ((s : Int)).toNat = s by omega] at this
      rw [this]
      by_cases h : t = s
      · rw [if_pos (by omega), if_pos h]
      · rw [if_neg (by omega), if_neg h]
    have hrep : ∀ b', repS m (l ++ [evP b s]) b' = (setF (repS m l) b (repS m l b ++ [repOf s (atS (repA m l) s)])) b' := by
      intro b'; have := congrFun (congrArg St.rep hst) b'; exact this
    have hval : ∀ b', valF (l ++ [evP b s]) b' = valF l b' := by
      intro b'; have := congrFun (congrArg St.vals hst) b'; exact this
    obtain ⟨i1, i2, i3, i4, i5⟩ := ih (l ++ [evP b s]) hg1 hnd1.2 (fun t ht => by
      refine ⟨(hP t (List.mem_cons_of_mem _ ht)).1, ?_⟩
      rw [hat t, if_neg (hne t ht)]
      exact (hP t (List.mem_cons_of_mem _ ht)).2)
    have e : l ++ (s :: P).map (evP b) = l ++ [evP b s] ++ P.map (evP b) := by simp
    rw [e]
    refine ⟨i1, fun t => ?_, ?_, fun b' hb' => ?_, fun b' => ?_⟩
    · rw [i2 t, hat t]
      by_cases h1 : t ∈ P
      · rw [if_pos h1, if_pos (List.mem_cons_of_mem _ h1), if_neg (hne t h1)]
      · rw [if_neg h1]
        by_cases h2 : t = s
        · subst h2; rw [if_pos rfl, if_pos (List.mem_cons_self ..)]
        · rw [if_neg h2, if_neg (by simp [h1, h2])]
    · rw [i3, hrep]
      unfold setF
      rw [if_pos rfl, List.map_cons, List.append_assoc]
      congr 1
      rw [List.singleton_append]
      congr 1
      refine List.map_congr_left fun t ht => ?_
      rw [hat t, if_neg (hne t ht)]
    · rw [i4 b' hb', hrep]; unfold setF; rw [if_neg hb']
    · rw [i5, hval]

/-! acceptances, one behind another -/
theorem evW_step {read : List (BitVec 16)} {m : Nat} (hm : m ≤ 12) {l : List Ev} {b s : Nat} {v : ByteArray} (hg : Good read m l) (hb : 1 ≤ b) (hs : s < m) (hp : (atS (repA m l) s).prom ≤ b) (hv : emB v = false) (hok : okD (demS read m l b) v = true) :
    Good read m (l ++ [evW b s v]) ∧ stOf m (l ++ [evW b s v]) = addP2 (stOf m l) (evW b s v) := by
  have hac : accpB (atS (repA m l) s) b = true := by unfold accpB; rw [Bool.and_eq_true]; exact ⟨decide_eq_true (by omega), decide_eq_true hp⟩
  have hf : folS read m l (evW b s v) = true := by
    unfold folS
    rw [if_neg (by show ¬ ((s : Int) < 0 ∨ (m : Int) ≤ (s : Int) ∨ (b : Int) < 1); omega), if_neg (show ¬ (evW b s v).kind = 1 by show ¬ (2 : Int) = 1; decide), if_pos (show (evW b s v).kind = 2 from rfl)]
    show (accpB (atS (repA m l) s) b && !emB v && okD (demS read m l b) v) = true
    rw [hac, hv, hok]; rfl
  refine ⟨.snoc hg hf, ?_⟩
  have hi := good_inv hm hg
  have h2 := (fol_step hm hi hf).2
  unfold addP at h2
  rw [if_neg (by show ¬ ((s : Int) < 0 ∨ ((repA m l).length : Int) ≤ (s : Int) ∨ (b : Int) < 1); rw [repA_len]; omega), if_neg (show ¬ (evW b s v).kind = 1 by show ¬ (2 : Int) = 1; decide), if_pos (show (evW b s v).kind = 2 from rfl), if_pos] at h2
  · exact (Option.some.inj h2).symm
  · rw [okP_okD hi (by show (1 : Int) ≤ (b : Int); omega)]
    show (accpB (atS (repA m l) s) b && !emB v && okD (demS read m l b) v) = true
    rw [hac, hv, hok]; rfl
theorem okD_same {v u : ByteArray} (h : okD (u, 0) v = true) : u = v := by
  unfold okD at h
  simp only [show decide ((0 : Int) = 4) = false by decide, Bool.false_or, decide_true, Bool.true_and] at h
  exact bs_ext (eq_of_beq h)
theorem acc_run {read : List (BitVec 16)} {m : Nat} (hm : m ≤ 12) {b : Nat} (hb : 1 ≤ b) {v : ByteArray} (hv : emB v = false) : ∀ (P : List Nat) (l : List Ev), Good read m l → P.Nodup → (∀ s ∈ P, s < m ∧ (atS (repA m l) s).prom ≤ b) → okD (demS read m l b) v = true →
    Good read m (l ++ P.map (fun s => evW b s v)) ∧ (∀ t : Nat, atS (repA m (l ++ P.map (fun s => evW b s v))) t = if t ∈ P then ⟨b, b, v⟩ else atS (repA m l) t) ∧
    (∀ b', repS m (l ++ P.map (fun s => evW b s v)) b' = repS m l b') ∧ (∀ b', b' ≠ (b : Int) → valF (l ++ P.map (fun s => evW b s v)) b' = valF l b') := by
  intro P
  induction P with
  | nil => intro l hg _ _ _; simp [hg]
  | cons s P ih =>
    intro l hg hnd hP hok
    obtain ⟨hs, hp⟩ := hP s (List.mem_cons_self ..)
    obtain ⟨hg1, hst⟩ := evW_step hm hg hb hs hp hv hok
    have hnd1 := (List.nodup_cons.1 hnd)
    have hne : ∀ t, t ∈ P → t ≠ s := fun t ht e => hnd1.1 (by rw [← e]; exact ht)
    have hacc : repA m (l ++ [evW b s v]) = (repA m l).set s ⟨b, b, v⟩ := by
      have := congrArg St.acc hst; exact this
    have hat : ∀ t : Nat, atS (repA m (l ++ [evW b s v])) t = if t = s then ⟨b, b, v⟩ else atS (repA m l) t := by
      intro t
      rw [hacc]
      have := atS_set (l := repA m l) (s := (s : Int)) (t := (t : Int)) (a := ⟨b, b, v⟩) (by omega) (by rw [repA_len]; omega) (by omega)
      rw [show ((s : Int)).toNat = s by omega] at this
      rw [this]
      by_cases h : t = s
      · rw [if_pos (by omega), if_pos h]
      · rw [if_neg (by omega), if_neg h]
    have hrep : ∀ b', repS m (l ++ [evW b s v]) b' = repS m l b' := by
      intro b'; have := congrFun (congrArg St.rep hst) b'; exact this
    have hval : ∀ b', valF (l ++ [evW b s v]) b' = (setF (valF l) b (some v)) b' := by
      intro b'; have := congrFun (congrArg St.vals hst) b'; exact this
    have hok1 : okD (demS read m (l ++ [evW b s v]) b) v = true := by
      unfold demS
      rw [hval]
      unfold setF
      rw [if_pos rfl]
      unfold okD; simp
    obtain ⟨i1, i2, i3, i4⟩ := ih (l ++ [evW b s v]) hg1 hnd1.2 (fun t ht => by
      refine ⟨(hP t (List.mem_cons_of_mem _ ht)).1, ?_⟩
      rw [hat t, if_neg (hne t ht)]
      exact (hP t (List.mem_cons_of_mem _ ht)).2) hok1
    have e : l ++ (s :: P).map (fun s => evW b s v) = l ++ [evW b s v] ++ P.map (fun s => evW b s v) := by simp
    rw [e]
    refine ⟨i1, fun t => ?_, fun b' => ?_, fun b' hb' => ?_⟩
    · rw [i2 t, hat t]
      by_cases h1 : t ∈ P
      · rw [if_pos h1, if_pos (List.mem_cons_of_mem _ h1)]
      · rw [if_neg h1]
        by_cases h2 : t = s
        · subst h2; rw [if_pos rfl, if_pos (List.mem_cons_self ..)]
        · rw [if_neg h2, if_neg (by simp [h1, h2])]
    · rw [i3 b', hrep]
    · rw [i4 b' hb', hval]; unfold setF; rw [if_neg hb']

/-- reports without a value leave the choice free -/
theorem best_zero : ∀ (l : List Rep), (∀ r ∈ l, r.ballot = 0) → bestR l = (0, ⟨#[]⟩) := by
  intro l h
  unfold bestR
  have : ∀ l : List Rep, (∀ r ∈ l, r.ballot = 0) → l.foldl stepR (0, ⟨#[]⟩) = (0, ⟨#[]⟩) := by
    intro l
    induction l with
    | nil => intro _; rfl
    | cons r l ih =>
      intro h
      rw [List.foldl_cons]
      have : stepR (0, ⟨#[]⟩) r = (0, ⟨#[]⟩) := by unfold stepR; rw [if_neg (by rw [h r (List.mem_cons_self ..)]; decide)]
      rw [this]; exact ih fun x hx => h x (List.mem_cons_of_mem _ hx)
  exact this l h
theorem dem_free {read : List (BitVec 16)} {m : Nat} (hm : m ≤ 12) {l : List Ev} {b : Nat} (acc1 : List Acc) (hg : Good read m l) (hb : 1 ≤ b) (hv : valF l b = none) {q : BitVec 16} (hq : q ∈ read) (hqm : ∀ i, hasB q i = true → i < m)
    (hr : repS m l b = (memS q).map fun (s : Nat) => repOf s (atS acc1 s)) (hz : ∀ s : Nat, hasB q s = true → (atS acc1 s).bal = 0) (v : ByteArray) : okD (demS read m l b) v = true := by
  have hi := good_inv hm hg
  have hs : ∀ r ∈ repS m l b, 0 ≤ r.server ∧ r.server < 12 := fun r hr => by have := hi.rep b r hr; omega
  have hacc : accS read (seenR (repS m l b)) = true := by
    unfold accS
    rw [List.any_eq_true]
    refine ⟨q, hq, (subB_iff _ _).2 fun i hiq => ?_⟩
    have hmem : repOf (i : Int) (atS acc1 i) ∈ repS m l b := by rw [hr]; exact List.mem_map.2 ⟨i, mem_memS.2 hiq, rfl⟩
    have := seen_has (repS m l b) 0#16 _ hs hmem
    unfold repOf at this
    simpa [seenR] using this
  have hbest : bestR (repS m l b) = (0, ⟨#[]⟩) := best_zero _ fun r hrr => by
    rw [hr] at hrr
    obtain ⟨s, hs1, rfl⟩ := List.mem_map.1 hrr
    exact hz s (mem_memS.1 hs1)
  have hd : demS read m l b = (⟨#[]⟩, 4) := by
    unfold demS
    rw [hv]
    show pickS read b (repS m l b) = _
    unfold pickS
    rw [if_neg (by omega), hi.seen b, if_neg (by decide), hacc, if_neg (by decide), hbest, if_pos rfl]
  rw [hd]; unfold okD; simp

theorem evA_evW (b : Nat) : evA b = fun s => evW b s (valB b) := rfl
theorem memS_nd (x : BitVec 16) : (memS x).Nodup := (memS_sorted x).imp fun h => Nat.ne_of_lt h
theorem att_good {read write : List (BitVec 16)} {m : Nat} (hm : m ≤ 12) (hchk : chkS m [read, write] = 0) {r w : BitVec 16} (hd : disS read write = some (r, w)) : Good read m (atkTo (read.getD 0 0#16) r w 2) := by
  obtain ⟨h1, _, _, hrd, hwr, _, _⟩ := chk2_ok hm hchk
  obtain ⟨hr, hw, hrw⟩ := dis_mem hd
  have hq0 : read.getD 0 0#16 ∈ read := by
    have hp := List.length_pos_of_mem hr
    rw [List.getD_eq_getElem?_getD, List.getElem?_eq_getElem hp]
    exact List.getElem_mem hp
  obtain ⟨q0, hq⟩ : ∃ q, read.getD 0 0#16 = q := ⟨_, rfl⟩
  rw [hq] at hq0 ⊢
  have hrep0 : ∀ t : Nat, atS (repA m []) t = acc0 := by
    intro t
    show (List.replicate m acc0).getD ((t : Int)).toNat acc0 = acc0
    rw [List.getD_eq_getElem?_getD, List.getElem?_replicate]; split <;> rfl
  have hnot : ∀ t, t ∈ memS r → t ∉ memS w := by
    intro t h1 h2
    have h3 := mem_memS.1 h1
    have h4 := mem_memS.1 h2
    have h5 : hasB (r &&& w) t = true := by rw [hasB_and, h3, h4]; rfl
    rw [eq_of_beq hrw, hasB_zero] at h5; cases h5
  obtain ⟨a1, a2, a3, a4, a5⟩ := prom_run (read := read) hm (b := 1) (Nat.le_refl _) (memS q0) [] .nil (memS_nd _) (fun s hs => ⟨hrd q0 hq0 s (mem_memS.1 hs), by rw [hrep0]; decide⟩)
  obtain ⟨l1, hl1⟩ : ∃ l, [] ++ (memS q0).map (evP 1) = l := ⟨_, rfl⟩
  rw [hl1] at a1 a2 a3 a4 a5
  have a2p : ∀ t : Nat, (atS (repA m l1) t).prom ≤ 1 ∧ (atS (repA m l1) t).bal = 0 := by
    intro t; rw [a2 t, hrep0]; split
    · exact ⟨Int.le_refl _, rfl⟩
    · decide
  have d1 := dem_free hm (repA m []) a1 (b := 1) (Nat.le_refl _) (by rw [a5]; rfl) hq0 (hrd q0 hq0) (by rw [a3]; rfl) (fun s _ => by rw [hrep0]; rfl) (valB 1)
  obtain ⟨b1, b2, b3, b4⟩ := acc_run hm (b := 1) (Nat.le_refl _) (valB_em 1) (memS w) l1 a1 (memS_nd _) (fun s hs => ⟨hwr w hw s (mem_memS.1 hs), (a2p s).1⟩) d1
  rw [← evA_evW] at b1 b2 b3 b4
  obtain ⟨l2, hl2⟩ : ∃ l, l1 ++ (memS w).map (evA 1) = l := ⟨_, rfl⟩
  rw [hl2] at b1 b2 b3 b4
  have b2p : ∀ t : Nat, (atS (repA m l2) t).prom ≤ 1 := by
    intro t; rw [b2 t]; split
    · exact Int.le_refl _
    · exact (a2p t).1
  obtain ⟨c1, c2, c3, c4, c5⟩ := prom_run (read := read) hm (b := 2) (by omega) (memS r) l2 b1 (memS_nd _) (fun s hs => ⟨hrd r hr s (mem_memS.1 hs), by have := b2p s; omega⟩)
  obtain ⟨l3, hl3⟩ : ∃ l, l2 ++ (memS r).map (evP 2) = l := ⟨_, rfl⟩
  rw [hl3] at c1 c2 c3 c4 c5
  have e2 : repS m l2 (2 : Nat) = [] := by rw [b3, a4 (2 : Nat) (by omega)]; rfl
  have d2 := dem_free hm (repA m l2) c1 (b := 2) (by omega) (by rw [c5, b4 (2 : Nat) (by omega), a5]; rfl) hr (hrd r hr) (by rw [c3, e2]; rfl) (fun s hs => by
    rw [b2 s, if_neg (hnot s (mem_memS.2 hs))]; exact (a2p s).2) (valB 2)
  obtain ⟨g1, _, _, _⟩ := acc_run hm (b := 2) (by omega) (valB_em 2) (memS w) l3 c1 (memS_nd _) (fun s hs => ⟨hwr w hw s (mem_memS.1 hs), by
    rw [c2 s]; split
    · exact Int.le_refl _
    · have := b2p s; omega⟩) d2
  rw [← evA_evW] at g1
  have e : atkTo q0 r w 2 = l3 ++ (memS w).map (evA 2) := by
    rw [← hl3, ← hl2, ← hl1]
    show blkS q0 w 1 ++ blkS r w 2 = _
    unfold blkS
    simp
  rw [e]; exact g1

theorem att_chosen {read write : List (BitVec 16)} {m : Nat} (hm : m ≤ 12) (hchk : chkS m [read, write] = 0) {r w : BitVec 16} (hd : disS read write = some (r, w)) (q0 : BitVec 16) : chrS write m (atkTo q0 r w 2) = [(valB 1).toList, (valB 2).toList] := by
  obtain ⟨h1, _, _, hrd, hwr, _, hzw⟩ := chk2_ok hm hchk
  obtain ⟨hr, hw, hrw⟩ := dis_mem hd
  have hin : ∀ (b s : Nat) (u : Nat), u = 1 ∨ u = 2 → s ∈ memS w → evA u s ∈ atkTo q0 r w 2 := by
    intro b s u hu hs
    show evA u s ∈ blkS q0 w 1 ++ blkS r w 2
    rcases hu with rfl | rfl
    · exact List.mem_append_left _ (List.mem_append_right _ (List.mem_map.2 ⟨s, hs, rfl⟩))
    · exact List.mem_append_right _ (List.mem_append_right _ (List.mem_map.2 ⟨s, hs, rfl⟩))
  have hv : ∀ e ∈ atkTo q0 r w 2, e.kind = 2 → e.value = valB 1 ∨ e.value = valB 2 := by
    intro e he hk
    have he2 : e ∈ blkS q0 w 1 ++ blkS r w 2 := he
    unfold blkS at he2
    rcases List.mem_append.1 he2 with h | h <;> rcases List.mem_append.1 h with h | h <;> obtain ⟨s, _, rfl⟩ := List.mem_map.1 h
    · exact absurd hk (show ¬ (1 : Int) = 2 by decide)
    · exact .inl rfl
    · exact absurd hk (show ¬ (1 : Int) = 2 by decide)
    · exact .inr rfl
  obtain ⟨i, hi⟩ := zero_not hzw hw
  have hch : ∀ u, u = 1 ∨ u = 2 → (valB u).toList ∈ chrS write m (atkTo q0 r w 2) := by
    intro u hu
    rw [chrS_mem]
    have him := hwr w hw i hi
    have hinB : ∀ s : Nat, s < m → inB m (s : Int) = true := fun s hs => by unfold inB; rw [Bool.and_eq_true]; exact ⟨decide_eq_true (by omega), decide_eq_true (by omega)⟩
    refine ⟨evA u i, hin 0 i u hu (mem_memS.2 hi), ?_, ?_, rfl⟩
    · unfold accI
      rw [show (evA u i).server = (i : Int) from rfl, hinB i him]; rfl
    · unfold accS
      rw [List.any_eq_true]
      refine ⟨w, hw, (subB_iff _ _).2 fun s hs => ?_⟩
      rw [byS_has (by omega)]
      refine ⟨evA u s, hin 0 s u hu (mem_memS.2 hs), ?_, rfl⟩
      unfold isV
      rw [show (evA u s).server = (s : Int) from rfl, hinB s (hwr w hw s hs), Bool.and_true, Bool.and_eq_true, Bool.and_eq_true]
      exact ⟨⟨decide_eq_true rfl, decide_eq_true rfl⟩, by rw [show (evA u s).value = (evA u i).value from rfl]; exact beq_self_eq_true _⟩
  refine asc_ext _ _ (chrS_asc write m _) ?_ fun x => ?_
  · rw [List.pairwise_cons]
    refine ⟨fun y hy => ?_, List.pairwise_singleton _ _⟩
    rw [List.mem_singleton] at hy; subst hy
    have e1 : (valB 1).toList = [118, 49] := by unfold valB; rw [bs_list]; decide +kernel
    have e2 : (valB 2).toList = [118, 50] := by unfold valB; rw [bs_list]; decide +kernel
    rw [e1, e2]; decide
  · constructor
    · intro hx
      rw [chrS_mem] at hx
      obtain ⟨e, he, ha, _, rfl⟩ := hx
      unfold accI at ha
      rw [Bool.and_eq_true, decide_eq_true_iff] at ha
      rcases hv e he ha.1 with h | h <;> rw [h] <;> simp
    · intro hx
      rcases List.mem_cons.1 hx with rfl | hx
      · exact hch 1 (.inl rfl)
      · rw [List.mem_singleton] at hx; subst hx; exact hch 2 (.inr rfl)
end Go.Proofs.YtgfjmplifmbmlaaDoor
namespace Go.Proofs.YtgfjmplifmbmlaaDoor
open Go.RowKit Go.Maps

theorem wf_small : ∀ q : Nat, q ≤ 4 → (Lit.int .i64 (q : Int)).wf = true
  | 0, _ => by decide
  | 1, _ => by decide
  | 2, _ => by decide
  | 3, _ => by decide
  | 4, _ => by decide
  | q + 5, h => absurd h (by omega)
theorem posQTo_succ (read : List (BitVec 16)) (st : St) (n k : Nat) : posQTo read st n (k + 1) = posQTo read st n k ++ posQC read st n (k + 1) := by
  unfold posQTo; rw [List.range_succ, List.flatMap_append]; simp
theorem posQC_len (read : List (BitVec 16)) (st : St) (n b : Nat) : (posQC read st n b).length ≤ n + n := by
  unfold posQC
  rw [List.length_append]
  refine Nat.add_le_add (flM_len _ _ n) ?_
  split
  · unfold posQB; rw [List.length_map]; exact Nat.le_trans (List.length_filter_le _ _) (by simp)
  · simp
theorem posQTo_len (read : List (BitVec 16)) (st : St) (n : Nat) : ∀ k, (posQTo read st n k).length ≤ k * (n + n)
  | 0 => by simp [posQTo]
  | k + 1 => by
    rw [posQTo_succ, List.length_append, Nat.succ_mul]
    exact Nat.add_le_add (posQTo_len read st n k) (posQC_len read st n (k + 1))

set_option maxRecDepth 100000 in
set_option maxHeartbeats 4000000 in
theorem ppossible_c (read : List (BitVec 16)) (ra : Option Addr) (rn rc : Nat) (B m cnt : Nat) (st : St) (f : Lit → Option Value) (hm : m ≤ 12) (w : World) (hr : Rd w ra rn rc (read.map setV2)) (h : StM w B m cnt (.slice ra rn rc) st f) :
    Calls Tryd.prog 37 #[.pointer (some ⟨B + 3, 0, none⟩)] w fun e w' => ∃ v, e = .returned v ∧ w'.ownsRow w.heap.size 48 4 v (posQ read st m).length ((posQ read st m).flatMap evC) ∧ Below w.heap.size w w' := by
  go_enter Tryd.func37, Tryd.ntmps37
  have H := Lib.hid h
  have HR := Lib.hid hr
  obtain ⟨r0, r1, r2, r3⟩ := open4 h.run
  have hlen0 := h.len
  clear h hr
  go_wp2_with fail
  go_loopw [3, 4] (fun v i wr => ∃ (k : Nat), k ≤ 4 ∧ i = .int .i64 ((k + 1 : Nat) : Int) ∧ wr.ownsRow w.heap.size 48 4 v (posQTo read st m k).length ((posQTo read st m k).flatMap evC) ∧ Below w.heap.size w wr) (fun _ i _ => 6 - (intOf i).toNat)
  case atStart => exact ⟨0, Nat.zero_le _, rfl, World.ownsRow_nil _ _ _ _, Below.refl _ _⟩
  case round =>
    obtain ⟨k, hk, rfl, hown, hb⟩ := hrel
    have hlen := posQTo_len read st m k
    have hlen2 : k * (m + m) ≤ 4 * 24 := Nat.mul_le_mul hk (by omega)
    have HLEN : Hid ((posQTo read st m k).length ≤ 96) := Lib.hid (by omega)
    clear hlen hlen2
    by_cases hlt : k < 4
    · obtain ⟨q, hq⟩ : ∃ q : Nat, k + 1 = q := ⟨_, rfl⟩
      rw [hq]
      have hq4 : (q : Int) ≤ 4 := by omega
      have HQ := Lib.hid hq
      have R1 := (hb.cell (p := ⟨B + 3, 1, none⟩) (cell_lt r1)).trans r1
      go_wp2_with fail
      go_loopw [3, 25] (fun v i wr => ∃ (j : Nat), j ≤ m ∧ i = .int .i64 j ∧ wr.ownsRow w.heap.size 48 4 v (posQTo read st m k ++ flM (fun s => promB (atS st.acc (s : Int)) q) (evP q) j).length ((posQTo read st m k ++ flM (fun s => promB (atS st.acc (s : Int)) q) (evP q) j).flatMap evC) ∧ Below w.heap.size w wr) (fun _ i _ => m - (intOf i).toNat)
      case atStart => exact ⟨0, Nat.zero_le _, rfl, by simpa [flM] using hown, hb⟩
      case round =>
        clear hown hb R1
        obtain ⟨j, hj, rfl, hown, hb⟩ := hrel
        by_cases hlt2 : j < m
        · have hst := H.out.below hb
          obtain ⟨⟨c0, c1, c2⟩, -⟩ := acc_cells hst.acc (s := j) (by rw [hst.len]; exact hlt2)
          obtain ⟨⟨p, qb, v⟩, hacc⟩ : ∃ a, atS st.acc j = a := ⟨_, rfl⟩
          rw [hacc] at c0 c1 c2
          obtain ⟨bb, hbb⟩ : ∃ bb, decide (p < (q : Int)) = bb := ⟨_, rfl⟩
          have HPC := Lib.hid (fun y => promise_c p qb v q y)
          obtain ⟨p', hp'⟩ : ∃ p', (if p < (q : Int) then (q : Int) else p) = p' := ⟨_, rfl⟩
          rw [hbb, hp'] at HPC
          have hsz := hb.size
          have HSUC : Hid (flM (fun s => promB (atS st.acc (s : Int)) q) (evP q) (j + 1) = flM (fun s => promB (atS st.acc (s : Int)) q) (evP q) j ++ if bb then [evP q j] else []) := Lib.hid (by rw [flM_succ]; simp only [hacc, promB, hbb])
          have HFL := Lib.hid (flM_len (fun s => promB (atS st.acc (s : Int)) q) (evP q) j)
          have HB := Lib.hid hb
          have HOWN := Lib.hid hown
          have i0 : (0 : Int) ≤ (j : Int) := by omega
          have i1 : (j : Int) < (m : Int) := by omega
          clear hbb hb hown hacc hst hp'
          go_wp2_with fail
          refine (HPC.out _).mono ?_
          rintro e w3 ⟨rfl, hb3⟩
          have hbw3 : Below w.heap.size w w3 := Below.next (HB.out.alloc hsz _) hb3
          have hbw : Below w.heap.size w (w3.alloc (.cells #[.int .i64 p', .int .i64 qb, .string v] 96)) := hbw3.alloc hbw3.size _
          have hown3 := rowK_below (rowK_below (rowK_below HOWN.out (blA _ _)) hb3) (blA w3 (.cells #[.int .i64 p', .int .i64 qb, .string v] 96))
          have hll : (posQTo read st m k ++ flM (fun s => promB (atS st.acc (s : Int)) q) (evP q) j).length ≤ 108 := by rw [List.length_append]; have := HLEN.out; have := HFL.out; omega
          have HOWN3 := Lib.hid hown3
          have HBW := Lib.hid hbw
          clear hb3 hbw3 c0 c1 c2
          cases bb
          · clear hown3 hbw
            go_wp2_with fail
            go_roundw
            case rel => exact ⟨j + 1, by omega, by go_num, by rw [HSUC.out]; simpa using HOWN3.out, HBW.out⟩
            case measure => simp [intOf]; omega
          · go_wp2_with (at_builtin; go_must (refine wpList_appK 4 _ _ 40 40 (.agg #[.int .i64 0, .int .i64 0, .int .i64 0, .string ⟨#[]⟩]) (evC (evP q j)) _ Tryd.underlying40 Tryd.infoEv rfl (by decide) hown3 hbw (Nat.le_refl _) rfl rfl rfl (by show Value.slice (some ⟨w3.heap.size + 1, 0, none⟩) 1 1 = _; rw [World.size_alloc]) rfl (by intro u hu; exact ev_one [evP q j] u (by simpa using hu)) (by unfold maxLen; omega) (by omega) ?_))
            intro v' w4 hown4 hb4 hg4 hs4
            have HOWN4 := Lib.hid hown4
            have HB4 := Lib.hid hb4
            clear hown3 hbw hown4 hb4 hg4 hs4 hll
            go_wp2_with fail
            go_roundw
            case rel => exact ⟨j + 1, by omega, by go_num, by rw [HSUC.out]; simpa [Nat.add_assoc] using HOWN4.out, HB4.out⟩
            case measure => simp [intOf]; omega
        · obtain rfl : j = m := by omega
          have HB := Lib.hid hb
          have HOWN := Lib.hid hown
          have hqw : (Lit.int .i64 (q : Int)).wf = true := wf_small q (by omega)
          have HV := Lib.hid (value_c read ra rn rc B j cnt st f q hqw wr (HR.out.below hb) (H.out.below hb))
          obtain ⟨⟨dv, fr, ok⟩, hde⟩ : ∃ d, valP read st q = d := ⟨_, rfl⟩
          rw [hde] at HV
          have HDE := Lib.hid hde
          clear hb hown hde
          go_wp2_with fail
          refine HV.out.mono ?_
          rintro e w5 ⟨rfl, hb5⟩
          have HB5 := Lib.hid (Below.next HB.out hb5)
          have HOWN5 := Lib.hid (rowK_below HOWN.out hb5)
          clear hb5
          cases ok
          · have HSTEP : Hid (posQTo read st j (k + 1) = posQTo read st j k ++ flM (fun s => promB (atS st.acc (s : Int)) q) (evP q) j) := Lib.hid (by rw [posQTo_succ, HQ.out]; unfold posQC; rw [HDE.out]; simp [valQ, posQA, flM])
            go_wp2_with fail
            go_roundw
            case rel => exact ⟨k + 1, by omega, by rw [← HQ.out]; go_num, by rw [HSTEP.out]; exact HOWN5.out, HB5.out⟩
            case measure => simp [intOf]; omega
          · have HFL := Lib.hid (flM_len (fun s => promB (atS st.acc (s : Int)) q) (evP q) j)
            cases fr
            · have HSTEP : Hid (posQTo read st j (k + 1) = posQTo read st j k ++ flM (fun s => promB (atS st.acc (s : Int)) q) (evP q) j ++ flM (fun s => accpB (atS st.acc (s : Int)) q) (fun s => evW q s dv) j) := Lib.hid (by rw [posQTo_succ, HQ.out, List.append_assoc]; unfold posQC; rw [HDE.out]; rfl)
              --LOOPB 14 dv
              have R1' := (HB5.out.cell (p := ⟨B + 3, 1, none⟩) (cell_lt r1)).trans r1
              go_wp2_with fail
              go_loopw [3, 62] (fun v i wr => ∃ (j2 : Nat), j2 ≤ j ∧ i = .int .i64 j2 ∧ wr.ownsRow w.heap.size 48 4 v (posQTo read st j k ++ flM (fun s => promB (atS st.acc (s : Int)) q) (evP q) j ++ flM (fun s => accpB (atS st.acc (s : Int)) q) (fun s => evW q s dv) j2).length ((posQTo read st j k ++ flM (fun s => promB (atS st.acc (s : Int)) q) (evP q) j ++ flM (fun s => accpB (atS st.acc (s : Int)) q) (fun s => evW q s dv) j2).flatMap evC) ∧ Below w.heap.size w wr) (fun _ i _ => j - (intOf i).toNat)
              case atStart => exact ⟨0, Nat.zero_le _, rfl, by simpa [flM] using HOWN5.out, HB5.out⟩
              case round =>
                clear R1'
                obtain ⟨j2, hj2, rfl, hown, hb⟩ := hrel
                by_cases hlt3 : j2 < j
                · have hst := H.out.below hb
                  obtain ⟨⟨c0, c1, c2⟩, -⟩ := acc_cells hst.acc (s := j2) (by rw [hst.len]; exact hlt3)
                  obtain ⟨⟨p, qb, v⟩, hacc⟩ : ∃ a, atS st.acc j2 = a := ⟨_, rfl⟩
                  rw [hacc] at c0 c1 c2
                  obtain ⟨bb, hbb⟩ : ∃ bb, decide (1 ≤ (q : Int) ∧ p ≤ (q : Int)) = bb := ⟨_, rfl⟩
                  obtain ⟨p', q', v', hres⟩ : ∃ (p' q' : Int) (v' : ByteArray), (if 1 ≤ (q : Int) ∧ p ≤ (q : Int) then Value.agg #[.int .i64 q, .int .i64 q, .string dv] else .agg #[.int .i64 p, .int .i64 qb, .string v]) = .agg #[.int .i64 p', .int .i64 q', .string v'] := by
                    by_cases h9 : 1 ≤ (q : Int) ∧ p ≤ (q : Int)
                    · exact ⟨_, _, _, if_pos h9⟩
                    · exact ⟨_, _, _, if_neg h9⟩
                  have HPC := Lib.hid (fun y => accept_c p qb v q dv y)
                  rw [hbb, hres] at HPC
                  have hsz := hb.size
                  have HSUC : Hid (flM (fun s => accpB (atS st.acc (s : Int)) q) (fun s => evW q s dv) (j2 + 1) = flM (fun s => accpB (atS st.acc (s : Int)) q) (fun s => evW q s dv) j2 ++ if bb then [evW q j2 dv] else []) := Lib.hid (by rw [flM_succ]; simp only [hacc, accpB, ← hbb, Bool.decide_and])
                  have HFL2 := Lib.hid (flM_len (fun s => accpB (atS st.acc (s : Int)) q) (fun s => evW q s dv) j2)
                  have HB := Lib.hid hb
                  have HOWN := Lib.hid hown
                  have i0 : (0 : Int) ≤ (j2 : Int) := by omega
                  have i1 : (j2 : Int) < (j : Int) := by omega
                  clear hbb hb hown hacc hst hres
                  go_wp2_with fail
                  refine (HPC.out _).mono ?_
                  rintro e w3 ⟨rfl, hb3⟩
                  have hbw3 : Below w.heap.size w w3 := Below.next (HB.out.alloc hsz _) hb3
                  have hbw : Below w.heap.size w (w3.alloc (.cells #[.int .i64 p', .int .i64 q', .string v'] 96)) := hbw3.alloc hbw3.size _
                  have hown3 := rowK_below (rowK_below (rowK_below HOWN.out (blA _ _)) hb3) (blA w3 (.cells #[.int .i64 p', .int .i64 q', .string v'] 96))
                  have hll : (posQTo read st j k ++ flM (fun s => promB (atS st.acc (s : Int)) q) (evP q) j ++ flM (fun s => accpB (atS st.acc (s : Int)) q) (fun s => evW q s dv) j2).length ≤ 120 := by rw [List.length_append, List.length_append]; have := HLEN.out; have := HFL.out; have := HFL2.out; omega
                  have HOWN3 := Lib.hid hown3
                  have HBW := Lib.hid hbw
                  clear hb3 hbw3 c0 c1 c2
                  cases bb
                  · clear hown3 hbw
                    go_wp2_with fail
                    go_roundw
                    case rel => exact ⟨j2 + 1, by omega, by go_num, by rw [HSUC.out]; simpa using HOWN3.out, HBW.out⟩
                    case measure => simp [intOf]; omega
                  · go_wp2_with (at_builtin; go_must (refine wpList_appK 4 _ _ 40 40 (.agg #[.int .i64 0, .int .i64 0, .int .i64 0, .string ⟨#[]⟩]) (evC (evW q j2 dv)) _ Tryd.underlying40 Tryd.infoEv rfl (by decide) hown3 hbw (Nat.le_refl _) rfl rfl rfl (by show Value.slice (some ⟨w3.heap.size + 1, 0, none⟩) 1 1 = _; rw [World.size_alloc]) rfl (by intro u hu; exact ev_one [evW q j2 dv] u (by simpa using hu)) (by unfold maxLen; omega) (by omega) ?_))
                    intro v'' w4 hown4 hb4 hg4 hs4
                    have HOWN4 := Lib.hid hown4
                    have HB4 := Lib.hid hb4
                    clear hown3 hbw hown4 hb4 hg4 hs4 hll
                    go_wp2_with fail
                    go_roundw
                    case rel => exact ⟨j2 + 1, by omega, by go_num, by rw [HSUC.out]; simpa [Nat.add_assoc] using HOWN4.out, HB4.out⟩
                    case measure => simp [intOf]; omega
                · obtain rfl : j2 = j := by omega
                  have HB := Lib.hid hb
                  have HOWN : Hid (wr.ownsRow w.heap.size 48 4 _ (posQTo read st j2 (k + 1)).length ((posQTo read st j2 (k + 1)).flatMap evC)) := Lib.hid (by rw [HSTEP.out]; exact hown)
                  clear hb hown
                  go_wp2_with fail
                  go_roundw
                  case rel => exact ⟨k + 1, by omega, by rw [← HQ.out]; go_num, HOWN.out, HB.out⟩
                  case measure => simp [intOf]; omega
              --ENDB
            · have HI := Lib.hid (Tryd.strconv_Itoa_small q (by omega))
              obtain ⟨x, hx⟩ : ∃ x, valB q = x := ⟨_, rfl⟩
              have HCAT : Hid ((⟨#[118]⟩ : ByteArray) ++ (⟨(Lib.decDigits q).toArray⟩ : ByteArray) = x) := Lib.hid ((cat2 [118] (Lib.decDigits q)).trans hx)
              have HSTEP : Hid (posQTo read st j (k + 1) = posQTo read st j k ++ flM (fun s => promB (atS st.acc (s : Int)) q) (evP q) j ++ flM (fun s => accpB (atS st.acc (s : Int)) q) (fun s => evW q s x) j) := Lib.hid (by rw [posQTo_succ, HQ.out, List.append_assoc]; unfold posQC; rw [HDE.out, ← hx]; rfl)
              have hdl := dec_small q (by omega)
              obtain ⟨dd, hdd⟩ : ∃ dd, Lib.decDigits q = dd := ⟨_, rfl⟩
              rw [hdd] at HI hdl HCAT
              clear hx hdd
              have R1' := (HB5.out.cell (p := ⟨B + 3, 1, none⟩) (cell_lt r1)).trans r1
              go_wp2_with fail
              refine (HI.out _).mono ?_
              rintro e w6 ⟨rfl, rfl⟩
              go_wp2_with fail
              rw [HCAT.out]
              --LOOPB 14 x
              go_loopw [3, 62] (fun v i wr => ∃ (j2 : Nat), j2 ≤ j ∧ i = .int .i64 j2 ∧ wr.ownsRow w.heap.size 48 4 v (posQTo read st j k ++ flM (fun s => promB (atS st.acc (s : Int)) q) (evP q) j ++ flM (fun s => accpB (atS st.acc (s : Int)) q) (fun s => evW q s x) j2).length ((posQTo read st j k ++ flM (fun s => promB (atS st.acc (s : Int)) q) (evP q) j ++ flM (fun s => accpB (atS st.acc (s : Int)) q) (fun s => evW q s x) j2).flatMap evC) ∧ Below w.heap.size w wr) (fun _ i _ => j - (intOf i).toNat)
              case atStart => exact ⟨0, Nat.zero_le _, rfl, by simpa [flM] using HOWN5.out, HB5.out⟩
              case round =>
                clear R1'
                obtain ⟨j2, hj2, rfl, hown, hb⟩ := hrel
                by_cases hlt3 : j2 < j
                · have hst := H.out.below hb
                  obtain ⟨⟨c0, c1, c2⟩, -⟩ := acc_cells hst.acc (s := j2) (by rw [hst.len]; exact hlt3)
                  obtain ⟨⟨p, qb, v⟩, hacc⟩ : ∃ a, atS st.acc j2 = a := ⟨_, rfl⟩
                  rw [hacc] at c0 c1 c2
                  obtain ⟨bb, hbb⟩ : ∃ bb, decide (1 ≤ (q : Int) ∧ p ≤ (q : Int)) = bb := ⟨_, rfl⟩
                  obtain ⟨p', q', v', hres⟩ : ∃ (p' q' : Int) (v' : ByteArray), (if 1 ≤ (q : Int) ∧ p ≤ (q : Int) then Value.agg #[.int .i64 q, .int .i64 q, .string x] else .agg #[.int .i64 p, .int .i64 qb, .string v]) = .agg #[.int .i64 p', .int .i64 q', .string v'] := by
                    by_cases h9 : 1 ≤ (q : Int) ∧ p ≤ (q : Int)
                    · exact ⟨_, _, _, if_pos h9⟩
                    · exact ⟨_, _, _, if_neg h9⟩
                  have HPC := Lib.hid (fun y => accept_c p qb v q x y)
                  rw [hbb, hres] at HPC
                  have hsz := hb.size
                  have HSUC : Hid (flM (fun s => accpB (atS st.acc (s : Int)) q) (fun s => evW q s x) (j2 + 1) = flM (fun s => accpB (atS st.acc (s : Int)) q) (fun s => evW q s x) j2 ++ if bb then [evW q j2 x] else []) := Lib.hid (by rw [flM_succ]; simp only [hacc, accpB, ← hbb, Bool.decide_and])
                  have HFL2 := Lib.hid (flM_len (fun s => accpB (atS st.acc (s : Int)) q) (fun s => evW q s x) j2)
                  have HB := Lib.hid hb
                  have HOWN := Lib.hid hown
                  have i0 : (0 : Int) ≤ (j2 : Int) := by omega
                  have i1 : (j2 : Int) < (j : Int) := by omega
                  clear hbb hb hown hacc hst hres
                  go_wp2_with fail
                  refine (HPC.out _).mono ?_
                  rintro e w3 ⟨rfl, hb3⟩
                  have hbw3 : Below w.heap.size w w3 := Below.next (HB.out.alloc hsz _) hb3
                  have hbw : Below w.heap.size w (w3.alloc (.cells #[.int .i64 p', .int .i64 q', .string v'] 96)) := hbw3.alloc hbw3.size _
                  have hown3 := rowK_below (rowK_below (rowK_below HOWN.out (blA _ _)) hb3) (blA w3 (.cells #[.int .i64 p', .int .i64 q', .string v'] 96))
                  have hll : (posQTo read st j k ++ flM (fun s => promB (atS st.acc (s : Int)) q) (evP q) j ++ flM (fun s => accpB (atS st.acc (s : Int)) q) (fun s => evW q s x) j2).length ≤ 120 := by rw [List.length_append, List.length_append]; have := HLEN.out; have := HFL.out; have := HFL2.out; omega
                  have HOWN3 := Lib.hid hown3
                  have HBW := Lib.hid hbw
                  clear hb3 hbw3 c0 c1 c2
                  cases bb
                  · clear hown3 hbw
                    go_wp2_with fail
                    go_roundw
                    case rel => exact ⟨j2 + 1, by omega, by go_num, by rw [HSUC.out]; simpa using HOWN3.out, HBW.out⟩
                    case measure => simp [intOf]; omega
                  · go_wp2_with (at_builtin; go_must (refine wpList_appK 4 _ _ 40 40 (.agg #[.int .i64 0, .int .i64 0, .int .i64 0, .string ⟨#[]⟩]) (evC (evW q j2 x)) _ Tryd.underlying40 Tryd.infoEv rfl (by decide) hown3 hbw (Nat.le_refl _) rfl rfl rfl (by show Value.slice (some ⟨w3.heap.size + 1, 0, none⟩) 1 1 = _; rw [World.size_alloc]) rfl (by intro u hu; exact ev_one [evW q j2 x] u (by simpa using hu)) (by unfold maxLen; omega) (by omega) ?_))
                    intro v'' w4 hown4 hb4 hg4 hs4
                    have HOWN4 := Lib.hid hown4
                    have HB4 := Lib.hid hb4
                    clear hown3 hbw hown4 hb4 hg4 hs4 hll
                    go_wp2_with fail
                    go_roundw
                    case rel => exact ⟨j2 + 1, by omega, by go_num, by rw [HSUC.out]; simpa [Nat.add_assoc] using HOWN4.out, HB4.out⟩
                    case measure => simp [intOf]; omega
                · obtain rfl : j2 = j := by omega
                  have HB := Lib.hid hb
                  have HOWN : Hid (wr.ownsRow w.heap.size 48 4 _ (posQTo read st j2 (k + 1)).length ((posQTo read st j2 (k + 1)).flatMap evC)) := Lib.hid (by rw [HSTEP.out]; exact hown)
                  clear hb hown
                  go_wp2_with fail
                  go_roundw
                  case rel => exact ⟨k + 1, by omega, by rw [← HQ.out]; go_num, HOWN.out, HB.out⟩
                  case measure => simp [intOf]; omega
              --ENDB
    · obtain rfl : k = 4 := by omega
      have HB := Lib.hid hb
      have HOWN := Lib.hid hown
      go_wp2_with fail
      go_ret
      exact ⟨_, rfl, HOWN.out, HB.out⟩
end Go.Proofs.YtgfjmplifmbmlaaDoor
namespace Go.Proofs.YtgfjmplifmbmlaaDoor
open Go.RowKit Go.Maps

set_option maxRecDepth 100000 in
set_option maxHeartbeats 4000000 in
theorem checkP_c (read : List (BitVec 16)) (m : Nat) (l : List Ev) (a : Option Addr) (n c : Nat) (a2 : Option Addr) (n2 c2 : Nat) (w : World) (h : Rd w a n c (read.map setV2)) (h2 : RdK 4 w a2 n2 c2 (l.flatMap evC)) (hwf : ∀ e ∈ l, (Lit.int .i64 e.ballot).wf = true) (hl : l.length ≤ 900) (hm : m ≤ 12) (hchk : chkS m [read] = 0) :
    Calls Tryd.prog 19 #[.slice a n c, .int .i64 m, .slice a2 n2 c2] w fun e w' => e = .returned (.tuple #[.int .i64 (chkR read m l).1, .int .i64 (chkR read m l).2]) ∧ Below w.heap.size w w' := by
  have hnl : l.length = n2 := by have := h2.len; rw [flat_len 4 evC evC_len] at this; omega
  have hb0 : Below w.heap.size w (w.alloc (.cells #[.slice a n c] 22)) := (Below.refl _ w).alloc (Nat.le_refl _) _
  have hss : RdSS (w.alloc (.cells #[.slice a n c] 22)) (some ⟨w.heap.size, 0, none⟩) 1 1 [read] := by
    refine ⟨[.slice a n c], Rd.lit _ _ _ 1 _ rfl rfl (by decide), rfl, fun i L hi => ?_⟩
    match i, hi with
    | 0, hi => cases hi; exact ⟨a, n, c, rfl, h.below hb0⟩
    | i + 1, hi => simp at hi
  have HC := Lib.hid (check_c m [read] _ 1 1 _ hss)
  rw [hchk] at HC
  have HB0 := Lib.hid hb0
  have HG := Lib.hid (fun w => begin_st m hm a n c w)
  have HR := Lib.hid h
  have HR2 := Lib.hid h2
  have HN := Lib.hid hnl
  have HWF := Lib.hid hwf
  have hle := h2.le
  have hmx := h2.max
  unfold maxLen at hmx
  rw [hnl] at hl
  clear h h2 hss hb0 hnl hwf hchk
  go_enter Tryd.func19, Tryd.ntmps19
  go_wp2_with fail
  refine HC.out.mono ?_
  rintro e w1 ⟨rfl, hb1⟩
  have HB1 := Lib.hid (Below.next HB0.out (by exact hb1))
  clear hb1
  go_wp2_with fail
  refine (HG.out w1).mono ?_
  rintro e w2 ⟨rfl, hb2, hst2⟩
  have HB2 := Lib.hid hb2
  have HST2 := Lib.hid hst2
  obtain ⟨B, hB⟩ : ∃ B, w1.heap.size = B := ⟨_, rfl⟩
  rw [hB] at HST2 HB2 ⊢
  have HBB := Lib.hid hB
  clear hb2 hst2 hB
  go_wp2_with fail
  go_loopw [24] (fun i wr => ∃ k : Nat, k ≤ n2 ∧ i = .int .i64 k ∧ Hid (GoodTo read m l k) ∧ Below B w1 wr ∧ Hid (∃ f, StM wr B m k (.slice a n c) (stOf m (l.take k)) f)) (fun i _ => n2 - (intOf i).toNat)
  case atStart => exact ⟨0, Nat.zero_le _, rfl, Lib.hid (fun j hj => by omega), HB2.out, Lib.hid ⟨_, HST2.out⟩⟩
  case round =>
    obtain ⟨k, hk, rfl, hgood, hb, hst⟩ := hrel
    obtain ⟨f, hst⟩ := hst.out
    by_cases hlt : k < n2
    · obtain ⟨e, he⟩ : ∃ e, l[k]? = some e := ⟨l[k]'(by have := HN.out; omega), List.getElem?_eq_getElem _⟩
      have hbw : Below w.heap.size w wr := HB1.out.trans (hb.mono (by have := HBB.out; have := HB1.out.size; omega))
      obtain ⟨b, o, ha, hcell⟩ := RdK.cells (HR2.out.below hbw) evC_len (by omega)
      have hc0 : wr.cell? ⟨b, o + k * 4, none⟩ = some (.int .i64 e.kind) := hcell k e he 0 (by omega)
      have hc1 : wr.cell? ⟨b, o + k * 4 + 1, none⟩ = some (.int .i64 e.server) := hcell k e he 1 (by omega)
      have hc2 : wr.cell? ⟨b, o + k * 4 + 2, none⟩ = some (.int .i64 e.ballot) := hcell k e he 2 (by omega)
      have hc3 : wr.cell? ⟨b, o + k * 4 + 3, none⟩ = some (.string e.value) := hcell k e he 3 (by omega)
      have HIN := Lib.hid (good_inv hm (goodTo_good k hgood.out))
      have hwe := HWF.out e (List.mem_of_getElem? he)
      have hlk : (l.take k).length ≤ 1000 := by rw [List.length_take]; omega
      have hbsz : B ≤ wr.heap.size := by have := hb.size; have := HBB.out; omega
      cases hf : folS read m (l.take k) e
      · have hA := Lib.hid (fun wx (hx : Below wr.heap.size wr wx) => add_no (ra := a) (rn := n) (rc := c) (B := B) (cnt := k) (f := f) hm HIN.out hwe hf wx ((HR.out.below hbw).below hx) (hst.below hx))
        have HRE : Hid (chkR read m l = ((k : Int), 0)) := Lib.hid (by
          unfold chkR
          rw [badAt_hit (by have := HN.out; omega) hgood.out (by unfold chkTo; rw [he]; exact hf)])
        have HBW := Lib.hid hbw
        obtain ⟨k0, s0, b0, x0⟩ := e
        unfold evV at hA
        simp only at hA hc0 hc1 hc2 hc3
        subst ha
        clear hcell he hf hgood hst hb hwe hbw
        go_wp2_with fail
        refine (hA.out _ (by first | with_reducible exact Below.refl _ _ | with_reducible exact blA _ _)).mono ?_
        rintro e w5 ⟨rfl, hb5⟩
        have HB5 := Lib.hid (Below.next HBW.out (by first | exact Below.next (blA _ _) hb5 | exact hb5))
        clear hb5
        go_wp2_with fail
        go_ret2
        exact ⟨by rw [HRE.out]; rfl, HB5.out⟩
      · have hA := Lib.hid (fun wx (hx : Below wr.heap.size wr wx) => add_yes (ra := a) (rn := n) (rc := c) (B := B) (cnt := k) (f := f) hm HIN.out hlk (by omega) hwe hf wx ((HR.out.below hbw).below hx) (hst.below hx))
        have HG2 : Hid (GoodTo read m l (k + 1)) := Lib.hid (fun j hj => by
          by_cases h1 : j < k
          · exact hgood.out j h1
          · obtain rfl : j = k := by omega
            unfold chkTo; rw [he]; exact hf)
        have HTK : Hid (l.take (k + 1) = l.take k ++ [e]) := Lib.hid (by rw [List.take_add_one, he]; rfl)
        have HB := Lib.hid hb
        have HBR := Lib.hid hbsz
        obtain ⟨k0, s0, b0, x0⟩ := e
        unfold evV at hA
        simp only at hA hc0 hc1 hc2 hc3
        subst ha
        clear hcell he hf hgood hst hb hwe hbw
        go_wp2_with fail
        refine (hA.out _ (by first | with_reducible exact Below.refl _ _ | with_reducible exact blA _ _)).mono ?_
        rintro e w5 ⟨rfl, hb5, f5, hst5, _⟩
        have HB5 := Lib.hid (HB.out.trans (by first | exact ((blA _ _).mono HBR.out).trans hb5 | exact hb5))
        rw [← HTK.out] at hst5
        have HST5 : Hid (∃ f', StM w5 B m (k + 1) (.slice a n c) (stOf m (l.take (k + 1))) f') := Lib.hid ⟨f5, hst5⟩
        clear hb5 hst5
        go_wp2_with fail
        go_roundw
        case rel => exact ⟨k + 1, by omega, by go_num, HG2, HB5.out, HST5⟩
        case measure => simp [intOf]; omega
    · obtain rfl : k = n2 := by omega
      have HRE : Hid (chkR read m l = (0, 13)) := Lib.hid (by
        unfold chkR
        rw [badAt_none (by rw [HN.out]; exact hgood.out)])
      have HBW := Lib.hid (HB1.out.trans (hb.mono (by have := HBB.out; have := HB1.out.size; omega)))
      clear hgood hst hb
      go_wp2_with fail
      go_ret2
      exact ⟨by rw [HRE.out]; rfl, HBW.out⟩
end Go.Proofs.YtgfjmplifmbmlaaDoor
namespace Go.Proofs.YtgfjmplifmbmlaaDoor
open Go.RowKit Go.Maps

/-- the row of a slice being built is none of the rows of a run's map -/
def OutC (f : Lit → Option Value) (v : Value) : Prop := ∀ (b : Int) u, f (keyI b) = some u → ∀ g, u.ownBlock = some g → v.ownBlock ≠ some g

theorem poss_bal {read : List (BitVec 16)} {n : Nat} {l : List Ev} {e : Ev} (h : e ∈ possS read n l) : 1 ≤ e.ballot ∧ e.ballot ≤ 4 := by
  unfold possS possTo at h
  obtain ⟨b, hb, h⟩ := List.mem_flatMap.1 h
  have hb4 := List.mem_range.1 hb
  unfold possC at h
  rcases List.mem_append.1 h with h | h
  · unfold possA at h
    obtain ⟨s, _, rfl⟩ := List.mem_map.1 h
    show (1 : Int) ≤ ((b + 1 : Nat) : Int) ∧ ((b + 1 : Nat) : Int) ≤ 4
    omega
  · split at h
    · unfold possB at h
      obtain ⟨s, _, rfl⟩ := List.mem_map.1 h
      show (1 : Int) ≤ ((b + 1 : Nat) : Int) ∧ ((b + 1 : Nat) : Int) ≤ 4
      omega
    · cases h

theorem StM.grown {w w' : World} {B m cnt : Nat} {sl : Value} {st : St} {f : Lit → Option Value} (h : StM w B m cnt sl st f) {v : Value} (hg : w.grownBy w' v.ownBlock) (hv : ∀ g, v.ownBlock = some g → B + 4 ≤ g) (hc : OutC f v) : StM w' B m cnt sl st f := by
  have hB : B < w.heap.size := (Array.getElem?_eq_some_iff.1 h.acc).1
  have hB3 : B + 3 < w.heap.size := (Array.getElem?_eq_some_iff.1 h.run).1
  have hB1 := h.reps.lt
  have hB2 := h.vals.lt
  refine ⟨?_, h.len, ?_, h.reps.at ?_, h.vals.at ?_, fun b => ?_, h.apart, h.srv⟩
  · exact (hg.block B hB (fun e => by have := hv B e.symm; omega)).trans h.acc
  · exact (hg.block _ hB3 (fun e => by have := hv _ e.symm; omega)).trans h.run
  · exact hg.block _ hB1 (fun e => by have := hv _ e.symm; omega)
  · exact hg.block _ hB2 (fun e => by have := hv _ e.symm; omega)
  · have h1 := h.rows b
    cases hf : f (keyI b) with
    | none => rw [hf] at h1; exact h1
    | some u =>
      rw [hf] at h1
      exact rowK_at h1 fun g hgu => hg.block g (h.rowLt hf hgu).2 (fun e => hc b u hf g hgu e.symm)

/-- the row of events through one event of the run -/
theorem out_frm {B n k : Nat} {e : TypeId} {l : List Value} {f f' : Lit → Option Value} {w w' : World} {v : Value} (hf : Frm B f f' w w') (ho : w.ownsRow (B + 4) e k v n l) (hc : OutC f v) : w'.ownsRow (B + 4) e k v n l ∧ OutC f' v := by
  refine ⟨rowK_at ho fun g hg => ?_, fun b u hu g hg e => ?_⟩
  · have h1 := World.ownsRow.lt ho g hg
    exact hf.keep g h1.2 (by omega) (by omega) (by omega) (fun b u hu e => hc b u hu g e hg)
  · have h1 := World.ownsRow.lt ho g e
    rcases hf.own b u hu g hg with h2 | ⟨b0, v0, h2, h3⟩
    · omega
    · exact hc b0 v0 h2 g h3 e
/-- the row of events, appended to -/
theorem out_app {B m cnt : Nat} {sl : Value} {st : St} {f : Lit → Option Value} {w : World} {v v' : Value} (h : StM w B m cnt sl st f) (hc : OutC f v) (hv : ∀ g, v'.ownBlock = some g → v.ownBlock = some g ∨ w.heap.size ≤ g) : OutC f v' := by
  intro b u hu g hg e
  rcases hv g e with h1 | h1
  · exact hc b u hu g hg h1
  · have := (h.rowLt hu hg).2
    omega
theorem outC_nil {v : Value} : OutC (fun _ => none) v := fun b u h => by cases h
/-- a block above the run's, none of its rows, through one event -/
theorem cell_frm {B : Nat} {f f' : Lit → Option Value} {w w' : World} (hf : Frm B f f' w w') {k i : Nat} {x : Value} (hk : w.cell? ⟨k, i, none⟩ = some x) (h4 : B + 4 ≤ k) (hc : ∀ (b : Int) v, f (keyI b) = some v → v.ownBlock ≠ some k) : w'.cell? ⟨k, i, none⟩ = some x :=
  (World.cell?_of_block (hf.keep k (cell_lt hk) (by omega) (by omega) (by omega) hc)).trans hk
end Go.Proofs.YtgfjmplifmbmlaaDoor
namespace Go.Proofs.YtgfjmplifmbmlaaDoor

theorem sys_mem {M : Nat} (hM : M ≤ 4) {l : List Int} (h : ∀ z ∈ l, 0 ≤ z ∧ z < 256) {x : BitVec 16} (hx : x ∈ sysS (1 + M) l) : x.toNat < 2 ^ (1 + M) ∧ x ≠ 0#16 := by
  unfold sysS madS at hx
  have h1 := (minS_good _).2 x hx
  unfold madL at h1
  obtain ⟨z, hz, rfl⟩ := List.mem_map.1 h1
  have hz2 := List.mem_of_mem_take hz
  unfold kepI at hz2
  obtain ⟨h0, h32, hlt, hne⟩ := kepTo_rng hM h _ z hz2
  obtain ⟨k, rfl⟩ := Int.eq_ofNat_of_zero_le h0
  have e : (mad (k : Int)).toNat = k := by
    unfold mad
    rw [show ((k : Int) % 64) = (k : Int) by omega]
    simp; omega
  constructor
  · rw [e]; exact_mod_cast hlt
  · intro h9
    have := congrArg BitVec.toNat h9
    rw [e] at this
    simp at this
    omega
theorem off_not {m : Nat} {f : List (BitVec 16)} (h : ∀ x ∈ f, x.toNat < 2 ^ m) : offB m f = false := by
  unfold offB
  rw [shr_big, decide_eq_false_iff_not]
  intro hle
  have : (supS f).toNat < 2 ^ m := Nat.lt_pow_two_of_testBit _ fun i hi => by
    cases hq : (supS f).toNat.testBit i
    · rfl
    · exfalso
      obtain ⟨x, hx, hxi⟩ := supS_has'.1 (show hasB (supS f) i = true from hq)
      have h1 := h x hx
      rw [hasB_nat] at hxi
      have h2 := Nat.ge_two_pow_of_testBit hxi
      have h3 : 2 ^ m ≤ 2 ^ i := Nat.pow_le_pow_right (by decide) hi
      omega
  omega
theorem z_not {f : List (BitVec 16)} (h : ∀ x ∈ f, x ≠ 0#16) : hasZ f = false := by
  unfold hasZ
  rw [List.any_eq_false]
  intro x hx
  have := h x hx
  simpa using fun e => this e.symm
theorem sys_chk {M : Nat} (hM : M ≤ 4) {l1 l2 : List Int} (h1 : ∀ z ∈ l1, 0 ≤ z ∧ z < 256) (h2 : ∀ z ∈ l2, 0 ≤ z ∧ z < 256) : chkS ((1 + M : Nat) : Int) [sysS (1 + M) l1, sysS (1 + M) l2] = 0 := by
  rw [chk2 (1 + M) (by omega) (by omega), if_neg, if_neg, off_not fun x hx => (sys_mem hM h1 hx).1, off_not fun x hx => (sys_mem hM h2 hx).1, z_not fun x hx => (sys_mem hM h1 hx).2, z_not fun x hx => (sys_mem hM h2 hx).2]
  · rfl
  · rw [show valS (sysS (1 + M) l2) = 0 from made_valid _]; decide
  · rw [show valS (sysS (1 + M) l1) = 0 from made_valid _]; decide
theorem chk_one {m : Nat} (hm : m ≤ 12) {f g : List (BitVec 16)} (h : chkS m [f, g] = 0) : chkS m [f] = 0 := by
  by_cases h1 : 1 ≤ m
  · rw [← chk_nil, chk2 m h1 hm]
    rw [chk2 m h1 hm] at h
    by_cases hf : valS f = 0
    · rw [if_neg (by rw [hf]; decide)] at h ⊢
      rw [if_neg (by decide +kernel)]
      have ho : offB m [] = false := off_not fun x hx => (by cases hx)
      have hz : hasZ [] = false := rfl
      rw [ho, hz, Bool.or_false, Bool.or_false]
      by_cases hg : valS g = 0
      · rw [if_neg (by rw [hg]; decide)] at h
        cases hoo : offB m f
        · rw [hoo, Bool.false_or] at h
          cases hzz : hasZ f
          · rfl
          · rw [hzz, Bool.true_or] at h
            split at h <;> cases h
        · rw [hoo] at h; cases h
      · rw [if_pos hg] at h; exact absurd h hg
    · rw [if_pos hf] at h; exact absurd h hf
  · exfalso; unfold chkS at h; rw [if_pos (by omega)] at h; cases h
theorem good_chk {read : List (BitVec 16)} {m : Nat} {l : List Ev} (h : Good read m l) : chkR read m l = (0, 13) := by
  unfold chkR
  rw [badAt_none (good_app h)]
theorem run_wf {read : List (BitVec 16)} {m : Nat} (hm : m ≤ 12) (ch : List Int) : ∀ e ∈ runS read m ch, (Lit.int .i64 e.ballot).wf = true := by
  have key : ∀ k, ∀ e ∈ runTo read m ch k, 1 ≤ e.ballot ∧ e.ballot ≤ 4 := by
    intro k
    induction k with
    | zero => intro e he; simp [runTo] at he
    | succ k ih =>
      intro e he
      cases hc : ch[k]? with
      | none =>
        unfold runTo at he ih
        rw [List.take_add_one, hc] at he
        simp at he
        exact ih e he
      | some c =>
        rw [runTo_succ hc] at he
        unfold runStep at he
        split at he
        · rename_i x hx
          rcases List.mem_append.1 he with he | he
          · exact ih e he
          · rw [List.mem_singleton] at he; subst he
            unfold pickE at hx
            exact poss_bal (List.mem_of_getElem? hx)
        · exact ih e he
  intro e he
  rw [← runTo_all] at he
  have := key _ e he
  exact WalkArith.wf_i64 (by omega)
end Go.Proofs.YtgfjmplifmbmlaaDoor
namespace Go.Proofs.YtgfjmplifmbmlaaDoor
open Go.RowKit Go.ChangeShapes Go.WideShapes Go.Deep

def IsEvs (W : World) (a : Option Addr) (n c : Nat) (L : List Ev) : Prop := RdK 4 W a n c (L.flatMap evC) ∧ ∀ r ∈ L, r.value.size ≤ maxLen ∧ (Lit.int .i64 r.ballot).wf = true
theorem open_evs {H : Type} {enc : TypeId × Value → H} {w : World} {base : Nat} {spare : Nat → Bool} {held : Bool} {fuel : Nat} {cs : List Value} {x : DataW H × List MemPlace} (h : DataW.trod enc Tryd.prog w base spare held fuel 40 cs = some x) :
    ∃ a n c L, cs = [.slice a n c] ∧ IsEvs w a n c L := by
  rcases open_slice_fields Tryd.underlying40 Tryd.underlying48 (by kernel_rfl) (by kernel_rfl) h with ⟨hcs, _⟩ | ⟨a, len, cap, m, D, Pl, hcs, _, hl, hm, hmm, _, hi⟩
  · exact ⟨none, 0, 0, [], hcs, RdK.none_ _ _, fun r hr => by cases hr⟩
  · have hlm : len ≤ m := by rw [hmm]; split <;> omega
    obtain ⟨L, hL1, hL2⟩ := list_of (α := Ev) (Q := fun i r => (∀ j, j < 4 → w.cell? (a.add (i * 4 + j)) = (evC r)[j]?) ∧ r.value.size ≤ maxLen ∧ (Lit.int .i64 r.ballot).wf = true) len (fun i hil => by
      obtain ⟨ys, n, _, _, _, hf⟩ := hi i (by omega)
      obtain ⟨v0, y0, c0, _, t0⟩ := hf 0 _ rfl
      obtain ⟨v1, y1, c1, _, t1⟩ := hf 1 _ rfl
      obtain ⟨v2, y2, c2, _, t2⟩ := hf 2 _ rfl
      obtain ⟨v3, y3, c3, _, t3⟩ := hf 3 _ rfl
      obtain ⟨z0, e0, _, _⟩ := DataW.trod_int Tryd.underlying3 t0
      obtain ⟨z1, e1, _, _⟩ := DataW.trod_int Tryd.underlying3 t1
      obtain ⟨z2, e2, _, hz2⟩ := DataW.trod_int Tryd.underlying3 t2
      obtain ⟨z3, e3, _, hz3⟩ := DataW.trod_string Tryd.underlying9 t3
      cases e0; cases e1; cases e2; cases e3
      refine ⟨⟨z0, z1, z2, z3⟩, fun j hj => ?_, hz3, hz2⟩
      match j, hj with
      | 0, _ => exact c0
      | 1, _ => exact c1
      | 2, _ => exact c2
      | 3, _ => exact c3)
    refine ⟨some a, len, cap, L, hcs, rdK_of 4 (by decide) evC evC_len hl hm L hL1 (fun i x hx j hj => (hL2 i x hx).1 j hj), fun r hr => ?_⟩
    obtain ⟨i, hi⟩ := List.mem_iff_getElem?.1 hr
    exact (hL2 i r hi).2

theorem u8_bd {z : Int} (h : (Lit.int .u8 z).wf = true) : 0 ≤ z ∧ z < 256 := by
  simp [Lit.wf, IntKind.min, IntKind.max, IntKind.bits, IntKind.signed] at h; omega
set_option maxRecDepth 100000 in
theorem ints_of {H : Type} {enc : TypeId × Value → H} {W : World} {base : Nat} {held : Bool} {fuel : Nat} {cs : List Value} {x : DataW H × List MemPlace} (h : DataW.trod enc Tryd.prog W base (fun _ => true) held fuel 35 cs = some x) :
    ∃ a n c z, cs = [.slice a n c] ∧ IsInts .u8 W a n c z := by
  rcases open_ints Tryd.underlying35 Tryd.underlying5 (by kernel_rfl) h with ⟨hcs, _⟩ | ⟨x, l, c, zs, hcs, _, hl, hm, hz, _, hcell, hwz⟩
  · exact ⟨_, _, _, _, hcs, .nil⟩
  · exact ⟨_, _, _, _, hcs, .row hl hm (by simpa using hz) hcell hwz⟩
/-- a system among the arguments -/
structure IsSys (W : World) (v : Value) (z1 z2 : List Int) (s : Int) : Prop where
  val : ∃ a n c a2 n2 c2, v = .agg #[.slice a n c, .slice a2 n2 c2, .int .u8 s] ∧ IsInts .u8 W a n c z1 ∧ IsInts .u8 W a2 n2 c2 z2
  num : 0 ≤ s ∧ s < 256
theorem list3 {α : Type} (l : List α) (h : (⟨l⟩ : Array α).size = 3) : ∃ a b c, l = [a, b, c] := by
  match l, h with
  | [a, b, c], _ => exact ⟨a, b, c, rfl⟩
set_option maxRecDepth 100000 in
theorem open_sys {H : Type} {enc : TypeId × Value → H} {W : World} {base b0 : Nat} {held : Bool} {v : Value} {d : DataW H} {p : List MemPlace} {r : Reach}
    (hv : Value.okWide Tryd.prog W r b0 37 v) (h : DataW.Trod enc Tryd.prog W base (fun _ => true) held 37 v d p) : ∃ z1 z2 s, IsSys W v z1 z2 s := by
  obtain ⟨cs, rfl, hsz⟩ := okWide_struct Tryd.underlying37 hv
  rw [show Tryd.prog.cellsOf 37 = 3 by kernel_rfl] at hsz
  obtain ⟨l⟩ := cs
  obtain ⟨c0, c1, c2, rfl⟩ := list3 l hsz
  obtain ⟨fuel, hf⟩ := h
  obtain ⟨xs, n, _, _, _, _, hfl⟩ := DataW.trod_struct Tryd.underlying37 hf
  have k8 : Tryd.prog.cellsOf 35 = 1 := by kernel_rfl
  have ku : Tryd.prog.cellsOf 5 = 1 := by kernel_rfl
  have h0 : DataW.trod enc Tryd.prog W base (fun _ => true) held n 35 (List.take (Tryd.prog.cellsOf 35) [c0, c1, c2]) = xs[0]? := hfl 0 _ rfl
  have h1 : DataW.trod enc Tryd.prog W base (fun _ => true) held n 35 (List.take (Tryd.prog.cellsOf 35) [c1, c2]) = xs[1]? := hfl 1 _ rfl
  have h2 : DataW.trod enc Tryd.prog W base (fun _ => true) held n 5 (List.take (Tryd.prog.cellsOf 5) [c2]) = xs[2]? := hfl 2 _ rfl
  rw [k8] at h0 h1
  rw [ku] at h2
  have hxl : xs.length = 3 := by assumption
  rw [List.getElem?_eq_getElem (by omega)] at h0 h1 h2
  obtain ⟨a, n1, cc, z1, e0, i0⟩ := ints_of h0
  obtain ⟨a2, n2, cc2, z2, e1, i1⟩ := ints_of h1
  obtain ⟨s, e2, _, hs⟩ := DataW.trod_int Tryd.underlying5 h2
  simp at e0 e1 e2
  subst e0 e1 e2
  exact ⟨z1, z2, s, ⟨a, n1, cc, a2, n2, cc2, rfl, i0, i1⟩, u8_bd hs⟩
end Go.Proofs.YtgfjmplifmbmlaaDoor
namespace Go.Proofs.YtgfjmplifmbmlaaDoor
open Go.RowKit Go.Maps

set_option maxRecDepth 100000 in
set_option maxHeartbeats 4000000 in
theorem prun_c (read write : List (BitVec 16)) (a : Option Addr) (n c : Nat) (aw : Option Addr) (nw cw : Nat) (m : Nat) (ch : List Nat) (a3 : Option Addr) (n3 c3 : Nat) (w : World) (h : Rd w a n c (read.map setV2)) (hw : Rd w aw nw cw (write.map setV2)) (h3 : Rd w a3 n3 c3 (ch.map chV)) (hch : ∀ x ∈ ch, x < 256) (hl : ch.length ≤ 30) (hm : m ≤ 12) (hchk : chkS m [read, write] = 0) :
    Calls Tryd.prog 16 #[.slice a n c, .slice aw nw cw, .int .i64 m, .slice a3 n3 c3] w fun e w' => ∃ v, e = .returned (.tuple #[v, .int .i64 0]) ∧ w'.ownsRow w.heap.size 48 4 v (runS read m (ch.map Int.ofNat)).length ((runS read m (ch.map Int.ofNat)).flatMap evC) ∧ Below w.heap.size w w' := by
  have hnl : ch.length = n3 := by have := h3.len; simp at this; omega
  have hb0 : Below w.heap.size w (w.alloc (.cells #[.slice a n c, .slice aw nw cw] 22)) := (Below.refl _ w).alloc (Nat.le_refl _) _
  have hss : RdSS (w.alloc (.cells #[.slice a n c, .slice aw nw cw] 22)) (some ⟨w.heap.size, 0, none⟩) 2 2 [read, write] := by
    refine ⟨[.slice a n c, .slice aw nw cw], Rd.lit _ _ _ 2 _ rfl rfl (by decide), rfl, fun i L hi => ?_⟩
    match i, hi with
    | 0, hi => cases hi; exact ⟨a, n, c, rfl, h.below hb0⟩
    | 1, hi => cases hi; exact ⟨aw, nw, cw, rfl, hw.below hb0⟩
    | i + 2, hi => simp at hi
  have HC := Lib.hid (check_c m [read, write] _ 2 2 _ hss)
  rw [hchk] at HC
  have HB0 := Lib.hid hb0
  have HG := Lib.hid (fun w => begin_st m hm a n c w)
  have HR := Lib.hid h
  have HR3 := Lib.hid h3
  have HN := Lib.hid hnl
  have HCH := Lib.hid hch
  have hle := h3.le
  have hmx := h3.max
  unfold maxLen at hmx
  rw [hnl] at hl
  clear h hw h3 hss hb0 hnl hch hchk
  go_enter Tryd.func16, Tryd.ntmps16
  go_wp2_with fail
  refine HC.out.mono ?_
  rintro e w1 ⟨rfl, hb1⟩
  have HB1 := Lib.hid (Below.next HB0.out (by exact hb1))
  clear hb1
  go_wp2_with fail
  refine (HG.out w1).mono ?_
  rintro e w2 ⟨rfl, hb2, hst2⟩
  have HB2 := Lib.hid hb2
  have HST2 := Lib.hid hst2
  obtain ⟨B, hB⟩ : ∃ B, w1.heap.size = B := ⟨_, rfl⟩
  rw [hB] at HST2 HB2 ⊢
  have HBB := Lib.hid hB
  clear hb2 hst2 hB
  go_wp2_with fail
  go_loopw [12, 30] (fun v i wr => ∃ k : Nat, k ≤ n3 ∧ i = .int .i64 k ∧ wr.ownsRow (B + 4) 48 4 v (runTo read m (ch.map Int.ofNat) k).length ((runTo read m (ch.map Int.ofNat) k).flatMap evC) ∧ Below B w1 wr ∧ Hid (∃ f, StM wr B m k (.slice a n c) (stOf m (runTo read m (ch.map Int.ofNat) k)) f ∧ OutC f v)) (fun _ i _ => n3 - (intOf i).toNat)
  case atStart => exact ⟨0, Nat.zero_le _, rfl, World.ownsRow_nil _ _ _ _, HB2.out, Lib.hid ⟨_, HST2.out, outC_nil⟩⟩
  case round =>
    obtain ⟨k, hk, rfl, hown, hb, hst⟩ := hrel
    obtain ⟨f, hst2, hoc⟩ := hst.out
    have hbw : Below w.heap.size w wr := HB1.out.trans (hb.mono (by have := HBB.out; have := HB1.out.size; omega))
    have HB := Lib.hid hb
    have HBW := Lib.hid hbw
    have HOWN := Lib.hid hown
    have HST := Lib.hid hst2
    have HOC := Lib.hid hoc
    have HLT := Lib.hid hown.lt
    by_cases hlt : k < n3
    · obtain ⟨x, hx⟩ : ∃ x, ch[k]? = some x := ⟨ch[k]'(by have := HN.out; omega), List.getElem?_eq_getElem _⟩
      have hx256 := HCH.out x (List.mem_of_getElem? hx)
      have hrd := HR3.out.below hbw
      obtain ⟨b', o, ha, hcell⟩ := hrd.at' (by omega)
      have hc0 := hcell k (chV x) (by simp [hx])
      unfold chV at hc0
      have hsuc : runTo read m (ch.map Int.ofNat) (k + 1) = runStep read m (runTo read m (ch.map Int.ofNat) k) (x : Int) := runTo_succ (by simp [hx])
      have HSUC := Lib.hid hsuc
      obtain ⟨ao, co, rfl, hro⟩ := rdK_of_row hown
      have HLEN := Lib.hid (runTo_len read m (ch.map Int.ofNat) k)
      have HGOOD := Lib.hid (good_inv hm (runTo_good read m (ch.map Int.ofNat) k))
      have HPO := Lib.hid (ppossible_c read a n c B m k _ f hm wr (HR.out.below hbw) HST.out)
      rw [poss_eq HGOOD.out] at HPO
      have hsz := hb.size
      subst ha
      clear hcell hx hb hown hrd hsuc hro hst hst2 hoc hbw
      go_wp2_with fail
      refine HPO.out.mono ?_
      rintro e w3 ⟨vl, rfl, hown2, hb3⟩
      obtain ⟨al, cl, rfl, hrl⟩ := rdK_of_row hown2
      have hc3 := (hb3.cell (p := ⟨b', o + k, none⟩) (cell_lt hc0)).trans hc0
      have HB3 := Lib.hid hb3
      clear hown2 hb3 HPO
      by_cases hz : possS read m (runTo read m (ch.map Int.ofNat) k) = []
      · have HSTO := Lib.hid (runTo_stop hz)
        rw [hz]
        clear hrl hz
        go_wp2_with fail
        go_ret2
        exact ⟨_, rfl, by rw [← HSTO.out]; exact rowK_mono (rowK_below HOWN.out HB3.out) (by have := HBB.out; have := HB1.out.size; omega), Below.next HBW.out HB3.out⟩
      · obtain ⟨L, hL⟩ : ∃ L, (possS read m (runTo read m (ch.map Int.ofNat) k)).length = L := ⟨_, rfl⟩
        have hL0 : 0 < L := by rw [← hL]; exact List.length_pos_iff.2 hz
        obtain ⟨r, hr⟩ : ∃ r, x % L = r := ⟨_, rfl⟩
        have hrL : r < L := by rw [← hr]; exact Nat.mod_lt _ hL0
        obtain ⟨e, he⟩ : ∃ e, (possS read m (runTo read m (ch.map Int.ofNat) k))[r]? = some e := ⟨_, List.getElem?_eq_getElem (by omega)⟩
        have HTO : Hid (runTo read m (ch.map Int.ofNat) (k + 1) = runTo read m (ch.map Int.ofNat) k ++ [e]) := Lib.hid (by
          rw [HSUC.out]; unfold runStep pickE
          rw [hL, show ((x : Int) % (L : Int)).toNat = r by rw [← Int.natCast_emod, Int.toNat_natCast, hr], he])
        have hrem : Int.tmod (x : Int) (L : Int) = (r : Int) := by rw [← hr]; exact (Int.ofNat_tmod x L).symm
        have hmem := List.mem_of_getElem? he
        have hbal := poss_bal hmem
        have HA := Lib.hid (fun wx (hx : Below wr.heap.size wr wx) => add_yes (ra := a) (rn := n) (rc := c) (B := B) (cnt := k) (f := f) (e := e) hm HGOOD.out (by have := HLEN.out; omega) (by omega) (WalkArith.wf_i64 (by omega)) (poss_fol hmem) wx ((HR.out.below HBW.out).below hx) (HST.out.below hx))
        rw [← HTO.out] at HA
        rw [hL] at hrl ⊢
        obtain ⟨b2, o2, ha2, hcell2⟩ := RdK.cells hrl evC_len hL0
        have g0 := hcell2 r e he 0 (by omega)
        have g1 := hcell2 r e he 1 (by omega)
        have g2 := hcell2 r e he 2 (by omega)
        have g3 := hcell2 r e he 3 (by omega)
        obtain ⟨kd, sv, eb, y⟩ := e
        simp only [evC, List.getElem?_cons_zero, List.getElem?_cons_succ, Nat.add_zero] at g0 g1 g2 g3
        subst ha2
        have q0 : (0 : Int) ≤ (r : Int) := by omega
        have q1 : (r : Int) < (L : Int) := by omega
        have q2 : ((L : Int) == 0) = false := by simp; omega
        have hlm := hrl.le
        have hlx := hrl.max
        unfold maxLen at hlx
        clear hz hcell2 he hrl hL hr hmem hbal
        go_wp2_with fail
        refine (HA.out _ (HB3.out.trans ((blA _ _).mono HB3.out.size))).mono ?_
        rintro e w5 ⟨rfl, hb5, f5, hst5, hfr5⟩
        have hsz3 := HB3.out.size
        have hBB := HBB.out
        have hB4 : B + 4 ≤ wr.heap.size := (Array.getElem?_eq_some_iff.1 HST.out.run).1
        have ho5 := out_frm hfr5 (rowK_below (rowK_below HOWN.out HB3.out) (blA _ _)) HOC.out
        have hcl : ∀ (b : Int) v, f (keyI b) = some v → v.ownBlock ≠ some w3.heap.size := fun b v hv e => by
          have := (HST.out.rowLt hv e).2; omega
        have z0 := cell_frm hfr5 (cell_new w3 #[.int .i64 kd, .int .i64 sv, .int .i64 eb, .string y] 48 0 _ rfl) (by omega) hcl
        have z1 := cell_frm hfr5 (cell_new w3 #[.int .i64 kd, .int .i64 sv, .int .i64 eb, .string y] 48 1 _ rfl) (by omega) hcl
        have z2 := cell_frm hfr5 (cell_new w3 #[.int .i64 kd, .int .i64 sv, .int .i64 eb, .string y] 48 2 _ rfl) (by omega) hcl
        have z3 := cell_frm hfr5 (cell_new w3 #[.int .i64 kd, .int .i64 sv, .int .i64 eb, .string y] 48 3 _ rfl) (by omega) hcl
        have hb15 : Below B w1 w5 := HB.out.trans (((HB3.out.trans ((blA _ _).mono HB3.out.size)).mono (by omega)).trans hb5)
        have HB15 := Lib.hid hb15
        have HST5 := Lib.hid hst5
        have HO5 := Lib.hid ho5
        have hown5 := ho5.1
        have hB5 : B + 4 ≤ w5.heap.size := (Array.getElem?_eq_some_iff.1 hst5.run).1
        have hbr : Below (B + 4) w5 w5 := Below.refl _ _
        have hln := HLEN.out
        clear hb5 hst5 hfr5 ho5 hcl hb15 g0 g1 g2 g3 HA hBB hsz3 hrem q0 q1 q2
        go_wp2_with (at_builtin; go_must (refine wpList_appK2 4 _ _ 40 40 (.agg #[.int .i64 0, .int .i64 0, .int .i64 0, .string ⟨#[]⟩]) (evC ⟨kd, sv, eb, y⟩) _ Tryd.underlying40 Tryd.infoEv rfl (by decide) hown5 hbr hB5 rfl rfl rfl rfl rfl (by intro u hu; exact ev_one [⟨kd, sv, eb, y⟩] u (by simpa using hu)) (by unfold maxLen; omega) (by omega) ?_))
        intro v' w6 hown6 hb6 hg6 hs6 hv6
        have HOWN6 : Hid (w6.ownsRow (B + 4) 48 4 v' (runTo read m (ch.map Int.ofNat) (k + 1)).length ((runTo read m (ch.map Int.ofNat) (k + 1)).flatMap evC)) := Lib.hid (by rw [HTO.out]; simpa using hown6)
        have HST6 : Hid (∃ f', StM w6 B m (k + 1) (.slice a n c) (stOf m (runTo read m (ch.map Int.ofNat) (k + 1))) f' ∧ OutC f' v') := Lib.hid ⟨f5, HST5.out.grown hg6 (fun g hg => (hown5.lt g hg).1) HO5.out.2, out_app HST5.out HO5.out.2 hv6⟩
        have HB6 := Lib.hid (HB15.out.trans (hb6.mono (by omega)))
        clear hown5 hbr hown6 hb6 hg6 hs6 hv6 z0 z1 z2 z3
        go_wp2_with fail
        go_roundw
        case rel => exact ⟨k + 1, by omega, by go_num, HOWN6.out, HB6.out, HST6⟩
        case measure => simp [intOf]; omega
    · obtain rfl : k = n3 := by omega
      have HE : Hid (runTo read m (ch.map Int.ofNat) k = runS read m (ch.map Int.ofNat)) := Lib.hid (by rw [← runTo_all, List.length_map, HN.out])
      clear hown hst hst2 hoc hb hbw
      go_wp2_with fail
      go_ret2
      exact ⟨_, rfl, by rw [← HE.out]; exact rowK_mono HOWN.out (by have := HBB.out; have := HB1.out.size; omega), HBW.out⟩
end Go.Proofs.YtgfjmplifmbmlaaDoor
namespace Go.Proofs.YtgfjmplifmbmlaaDoor
open Go.RowKit Go.Shelf

theorem bytes_of {W : World} {a : Option Addr} {n c : Nat} {z : List Int} (h : IsInts .u8 W a n c z) : ∃ ch : List Nat, Rd W a n c (ch.map chV) ∧ (∀ x ∈ ch, x < 256) ∧ ch.length = n ∧ ch.map Int.ofNat = z := by
  have hb : ∀ x ∈ z, 0 ≤ x ∧ x < 256 := fun x hx => u8_bd (h.wf x hx)
  have e : (z.map Int.toNat).map Int.ofNat = z := by
    rw [List.map_map]
    conv => rhs; rw [← List.map_id z]
    refine List.map_congr_left fun x hx => ?_
    have := hb x hx
    show (((Int.toNat x) : Nat) : Int) = x
    omega
  refine ⟨z.map Int.toNat, ?_, fun x hx => ?_, by rw [List.length_map]; exact h.len, e⟩
  · have := h.rd
    rw [← e, List.map_map] at this
    exact this
  · obtain ⟨y, hy, rfl⟩ := List.mem_map.1 hx
    have := hb y hy; omega
theorem int8s {W : World} {a : Option Addr} {n c : Nat} {z : List Int} (h : IsInts .u8 W a n c z) : ∀ x ∈ z, 0 ≤ x ∧ x < 256 := fun x hx => u8_bd (h.wf x hx)
/-- what a call of 'of' gives, for the laws -/
def OfGives (W w' : World) (e : Ending) (read write : List (BitVec 16)) (m : Nat) : Prop :=
  ∃ a3 c3 a4 c4, e = .returned (.tuple #[.slice a3 read.length c3, .slice a4 write.length c4, .int .i64 m]) ∧ Rd w' a3 read.length c3 (read.map setV2) ∧ Rd w' a4 write.length c4 (write.map setV2) ∧ Below W.heap.size W w'
theorem sys_open {W : World} {v : Value} {y z : List Int} {s : Int} (h : IsSys W v y z s) : ∃ (m : Nat) (read write : List (BitVec 16)), 1 ≤ m ∧ m ≤ 5 ∧ chkS m [read, write] = 0 ∧ read.length ≤ 20 ∧ write.length ≤ 20 ∧
    ∃ x0 x1 x2 x3 x4 x5 x6, v = .agg #[.slice x0 x1 x2, .slice x3 x4 x5, .int .u8 x6] ∧ ∀ W', Below W.heap.size W W' → Calls Tryd.prog 15 #[.agg #[.slice x0 x1 x2, .slice x3 x4 x5, .int .u8 x6]] W' (fun e w' => OfGives W' w' e read write m) := by
  obtain ⟨⟨a, n, c, a2, n2, c2, rfl, i1, i2⟩, hs⟩ := h
  have hb1 := int8s i1
  have hb2 := int8s i2
  have hM : (s % 5).toNat ≤ 4 := by omega
  exact ⟨ofN s, sysS (ofN s) y, sysS (ofN s) z, by unfold ofN; omega, by unfold ofN; omega, sys_chk hM hb1 hb2, madS_le _, madS_le _, a, n, c, a2, n2, c2, s, rfl, fun W' hb => sys_c y z s hs hb1 hb2 a n c a2 n2 c2 W' (i1.rd.below hb) (i2.rd.below hb)⟩

set_option maxRecDepth 100000 in
set_option maxHeartbeats 4000000 in
theorem singleRun_w (v : Value) (y z : List Int) (s : Int) (a1 : Option Addr) (len1 cap1 : Nat) (z1 : List Int) (w : World) (ht : HasTab w) (w0 : IsSys w v y z s) (w1 : IsInts .u8 w a1 len1 cap1 z1) :
    Calls Tryd.prog 4 #[v, .slice a1 len1 cap1] w fun e w' => e = .returned (.bool true) ∧ Below w.heap.size w w' := by
  obtain ⟨m, read, write, hm1, hm5, hchk, hrl, hwl, x0, x1, x2, x3, x4, x5, x6, rfl, hof⟩ := sys_open w0
  obtain ⟨ch, hch, hch256, hlen, hchz⟩ := bytes_of w1
  have HT := Lib.hid ht
  have HOF := Lib.hid hof
  have HCHK := Lib.hid hchk
  have HCH := Lib.hid hch
  have HC256 := Lib.hid hch256
  have HLEN := Lib.hid hlen
  have HA := Lib.hid (fun w h => awake37_c w h)
  clear w0 w1 hof hchk hch hch256 hlen ht hchz
  by_cases hc : (20 : Int) < (len1 : Int)
  · have hd : decide ((20 : Int) < (len1 : Int)) = true := decide_eq_true hc
    clear hc
    go_enter Tryd.func4, Tryd.ntmps4
    go_wp2_with fail
    refine (HOF.out _ (blA w _)).mono ?_
    rintro e wa ⟨a3, c3, a4, c4, rfl, hr3, hr4, hba⟩
    have b1 := Below.next (blA w _) hba
    clear hr3 hr4 hba
    go_wp2_with fail
    refine (HA.out _ (HT.out.below b1)).mono ?_
    rintro e w1 ⟨rfl, b2⟩
    have b3 := Below.next b1 b2
    clear b1 b2
    go_wp2_with fail
    refine (HA.out w1 (HT.out.below b3)).mono ?_
    rintro e w2 ⟨rfl, b4⟩
    go_wp2_with fail
    go_ret
    exact ⟨rfl, Below.next b3 b4⟩
  · have hd : decide ((20 : Int) < (len1 : Int)) = false := decide_eq_false hc
    have hl20 : len1 ≤ 20 := by omega
    obtain ⟨ev, hev⟩ : ∃ ev, runS read m (ch.map Int.ofNat) = ev := ⟨_, rfl⟩
    have hevl : ev.length ≤ 20 := by
      rw [← hev, ← runTo_all]
      have := runTo_len read m (ch.map Int.ofNat) (ch.map Int.ofNat).length
      rw [List.length_map, HLEN.out] at this
      rw [List.length_map, HLEN.out]
      omega
    have HG : Hid (chkR read m ev = (0, 13)) := Lib.hid (by rw [← hev]; exact good_chk (run_good read m _ _ .nil))
    have HWF : Hid (∀ e ∈ ev, (Lit.int .i64 e.ballot).wf = true) := Lib.hid (by rw [← hev]; exact run_wf (by omega) _)
    have HC1 : Hid (chkS m [read] = 0) := Lib.hid (chk_one (by omega) HCHK.out)
    have HPR := Lib.hid (fun a n c aw nw cw a3 n3 c3 w h hw h3 => prun_c read write a n c aw nw cw m ch a3 n3 c3 w h hw h3 HC256.out (by rw [HLEN.out]; omega) (by omega) HCHK.out)
    have HRR := Lib.hid (fun a n c aw nw cw a3 n3 c3 w h hw h3 => rrun_c read write a n c aw nw cw m ch a3 n3 c3 w h hw h3 HC256.out (by rw [HLEN.out]; omega) (by omega) HCHK.out)
    rw [hev] at HPR HRR
    have HCK := Lib.hid (fun a n c a2 n2 c2 w h h2 => checkP_c read m ev a n c a2 n2 c2 w h h2 HWF.out (by omega) (by omega) HC1.out)
    rw [HG.out] at HCK
    have HSE := Lib.hid (fun a n c a2 n2 c2 w h h2 => sameE_c ev ev a n c a2 n2 c2 w h h2)
    rw [show decide (ev = ev) = true by simp] at HSE
    have HCS := Lib.hid (fun l a n c w h hb => clones_c l a n c w h hb)
    have HCB := Lib.hid (fun w h => cloneb_c ch a1 len1 cap1 w h (by omega))
    obtain ⟨rn, hrn⟩ : ∃ rn, read.length = rn := ⟨_, rfl⟩
    obtain ⟨wn, hwn⟩ : ∃ wn, write.length = wn := ⟨_, rfl⟩
    obtain ⟨en, hen⟩ : ∃ en, ev.length = en := ⟨_, rfl⟩
    rw [hrn] at hrl
    rw [hwn] at hwl
    rw [hen] at hevl
    have HRN := Lib.hid hrn
    have HWN := Lib.hid hwn
    have HEN := Lib.hid hen
    rw [hen] at HPR HRR
    clear hc hev hrn hwn hen
    go_enter Tryd.func4, Tryd.ntmps4
    go_wp2_with fail
    refine (HOF.out _ (blA w _)).mono ?_
    rintro e wa ⟨a3, c3, a4, c4, rfl, hr3, hr4, hba⟩
    have b1 := Below.next (blA w _) hba
    rw [HRN.out] at hr3 ⊢
    rw [HWN.out] at hr4 ⊢
    have R3 := Lib.hid hr3
    have R4 := Lib.hid hr4
    clear hr3 hr4 hba
    go_wp2_with fail
    refine (HA.out _ (HT.out.below b1)).mono ?_
    rintro e wb ⟨rfl, bb⟩
    have b2 := Below.next b1 bb
    have R3b := Lib.hid (R3.out.below bb)
    have R4b := Lib.hid (R4.out.below bb)
    clear b1 bb R3 R4
    go_wp2_with fail
    refine (HCS.out read a3 rn c3 wb R3b.out (by omega)).mono ?_
    rintro e wc ⟨a5, c5, rfl, r5, bc⟩
    have b3 := Below.next b2 bc
    have R3c := Lib.hid (R3b.out.below bc)
    have R4c := Lib.hid (R4b.out.below bc)
    have R5 := Lib.hid r5
    clear b2 bc R3b R4b r5
    go_wp2_with fail
    refine (HCS.out write a4 wn c4 wc R4c.out (by omega)).mono ?_
    rintro e wd ⟨a6, c6, rfl, r6, bd⟩
    have b4 := Below.next b3 bd
    have R3d := Lib.hid (R3c.out.below bd)
    have R4d := Lib.hid (R4c.out.below bd)
    have R5d := Lib.hid (R5.out.below bd)
    have R6 := Lib.hid r6
    clear b3 bd R3c R4c r6 R5
    go_wp2_with fail
    refine (HCB.out wd (HCH.out.below b4)).mono ?_
    rintro e we ⟨a7, c7, rfl, r7, be⟩
    have b5 := Below.next b4 be
    have R3e := Lib.hid (R3d.out.below be)
    have R4e := Lib.hid (R4d.out.below be)
    have R7 := Lib.hid r7
    have HP2 := Lib.hid (HPR.out a5 rn c5 a6 wn c6 a7 len1 c7 we (R5d.out.below be) (R6.out.below be) R7.out)
    clear b4 be R3d R4d r7 R5d R6
    go_wp2_with fail
    refine HP2.out.mono ?_
    rintro e wf ⟨vl, rfl, hol, bf⟩
    obtain ⟨al, cl, rfl, rl⟩ := rdK_of_row hol
    have b6 := Below.next b5 bf
    have RL := Lib.hid rl
    have R3f := Lib.hid (R3e.out.below bf)
    have R4f := Lib.hid (R4e.out.below bf)
    have HR2 := Lib.hid (HRR.out a3 rn c3 a4 wn c4 a1 len1 cap1 wf R3f.out R4f.out (HCH.out.below b6))
    clear b5 bf hol rl R3e R4e HP2
    go_wp2_with fail
    refine HR2.out.mono ?_
    rintro e wg ⟨vm, rfl, hom, bg⟩
    obtain ⟨am, cm, rfl, rm⟩ := rdK_of_row hom
    have b7 := Below.next b6 bg
    have RM := Lib.hid rm
    have RLg := Lib.hid (RL.out.below bg)
    have R3g := Lib.hid (R3f.out.below bg)
    clear b6 bg hom rm R3f R4f HR2 RL
    go_wp2_with fail
    refine (HCS.out read a3 rn c3 wg R3g.out (by omega)).mono ?_
    rintro e wh ⟨a8, c8, rfl, r8, bh⟩
    have b8 := Below.next b7 bh
    have RMh := Lib.hid (RM.out.below bh)
    have RLh := Lib.hid (RLg.out.below bh)
    have R8 := Lib.hid r8
    clear b7 bh r8 RM RLg R3g
    go_wp2_with fail
    refine (clonee_c ev al en cl wh RLh.out (by omega)).mono ?_
    rintro e wi ⟨a9, c9, rfl, r9, bi⟩
    have b9 := Below.next b8 bi
    have RMi := Lib.hid (RMh.out.below bi)
    have RLi := Lib.hid (RLh.out.below bi)
    have HC2 := Lib.hid (HCK.out a8 rn c8 a9 en c9 wi (R8.out.below bi) r9)
    clear b8 bi r9 RMh RLh R8
    go_wp2_with fail
    refine HC2.out.mono ?_
    rintro e wj ⟨rfl, bj⟩
    have b10 := Below.next b9 bj
    have HS2 := Lib.hid (HSE.out al en cl am en cm wj (RLi.out.below bj) (RMi.out.below bj))
    clear b9 bj RMi RLi HC2
    go_wp2_with fail
    refine HS2.out.mono ?_
    rintro e wk ⟨rfl, bk⟩
    have b11 := Below.next b10 bk
    clear b10 bk HS2
    go_wp2_with fail
    go_ret
    exact ⟨rfl, b11⟩
end Go.Proofs.YtgfjmplifmbmlaaDoor
namespace Go.Proofs.YtgfjmplifmbmlaaDoor
open Go.RowKit Go.Maps

theorem laidOut37 : laidOutB Tryd.prog = true := by kernel_rfl
set_option maxRecDepth 100000 in
theorem acc_under : ∃ n1 n2 : Field, Tryd.prog.underlying 84 = some (.struct #[n1, n2]) ∧ n1.name ≠ "_" ∧ n2.name ≠ "_" ∧ n1.type = 3 ∧ n2.type = 9 ∧ n1.offset = 0 ∧ n2.offset = 1 := ⟨_, _, Tryd.underlying84, by decide, by decide, rfl, rfl, rfl, rfl⟩
theorem accd_cells : Tryd.prog.cellsOf 84 = 2 := by kernel_rfl
theorem int_cells : Tryd.prog.cellsOf 3 = 1 := by kernel_rfl
theorem str_cells : Tryd.prog.cellsOf 9 = 1 := by kernel_rfl
theorem acc_wide : (match Tryd.prog.underlying 84 with | some (.array _ _) | some (.struct _) => true | _ => false) = true := by kernel_rfl
set_option maxRecDepth 100000 in
theorem kAcc : Keyed Tryd.prog 84 := Keyed.of_law (deep_law_laid laidOut37 (m := 2) (by omega) (of_decide_eq_true (by kernel_rfl)) (by kernel_rfl) acc_wide)
theorem acc_key : Tryd.prog.keyType 84 = true := by kernel_rfl

def keyA (b : Int) (v : ByteArray) : Value := .agg #[.int .i64 b, .string v]
def klA (b : Int) (v : ByteArray) : Lit := .string (keyBytes [.int .i64 b, .string v.data.toList])
theorem keyLits_struct {P : Program} {t : TypeId} {fs : Array Field} (hu : P.underlying t = some (.struct fs)) (D : Nat) (cs : List Value) : P.keyLits (D + 1) t cs = if cs.length = P.cellsOf t ∧ fs.all (·.name != "_") = true then (fs.toList.mapM fun f => P.keyLits D f.type ((cs.drop f.offset).take (P.cellsOf f.type))).map List.flatten else none := by
  conv => lhs; unfold Program.keyLits
  rw [hu]
theorem keyLits_i {P : Program} {t : TypeId} {q : IntKind} (hu : P.underlying t = some (.int q)) (D : Nat) (c : Value) : P.keyLits (D + 1) t [c] = (match c with | .int q' n => if q' = q ∧ (Lit.int q n).wf = true then some [.int q n] else none | _ => none) := by
  conv => lhs; unfold Program.keyLits
  rw [hu]
  cases c <;> rfl
theorem keyLits_s {P : Program} {t : TypeId} (hu : P.underlying t = some .string) (D : Nat) (c : Value) : P.keyLits (D + 1) t [c] = (match c with | .string s => if s.size ≤ maxLen then some [.string s.data.toList] else none | _ => none) := by
  conv => lhs; unfold Program.keyLits
  rw [hu]
  cases c <;> rfl
theorem keyLits_acc (D : Nat) (c0 c1 : Value) : Tryd.prog.keyLits (D + 1) 84 [c0, c1] = (match Tryd.prog.keyLits D 3 [c0], Tryd.prog.keyLits D 9 [c1] with | some a, some b => some (a ++ b) | _, _ => none) := by
  obtain ⟨n1, n2, hu, h1, h2, ht1, ht2, ho1, ho2⟩ := acc_under
  rw [keyLits_struct hu]
  have e1 : (n1.name != "_") = true := by simpa using h1
  have e2 : (n2.name != "_") = true := by simpa using h2
  have e3 : (#[n1, n2] : Array Field).all (·.name != "_") = true := by simp [e1, e2]
  rw [if_pos ⟨by rw [accd_cells]; rfl, e3⟩]
  have e4 : (#[n1, n2] : Array Field).toList = [n1, n2] := rfl
  rw [e4, List.mapM_cons, List.mapM_cons, List.mapM_nil, ht1, ht2, ho1, ho2, int_cells, str_cells]
  show Option.map List.flatten (do let r ← Tryd.prog.keyLits D 3 [c0]; _) = _
  have e5 : ([c0, c1].drop 1).take 1 = [c1] := rfl
  have e6 : ([c0, c1].drop 0).take 1 = [c0] := rfl
  rw [e5]
  generalize Tryd.prog.keyLits D 3 [c0] = A
  generalize Tryd.prog.keyLits D 9 [c1] = B
  cases A <;> cases B <;> simp
theorem keyLits_int (D : Nat) (c : Value) : Tryd.prog.keyLits (D + 1) 3 [c] = (match c with | .int q n => if q = .i64 ∧ (Lit.int .i64 n).wf = true then some [.int .i64 n] else none | _ => none) := keyLits_i Tryd.underlying3 D c
theorem keyLits_str (D : Nat) (c : Value) : Tryd.prog.keyLits (D + 1) 9 [c] = (match c with | .string s => if s.size ≤ maxLen then some [.string s.data.toList] else none | _ => none) := keyLits_s Tryd.underlying9 D c
set_option maxRecDepth 100000 in
theorem acc_size : ∃ n, Tryd.prog.types.size + 1 = n + 3 := ⟨Tryd.prog.types.size - 2, by have : 2 ≤ Tryd.prog.types.size := of_decide_eq_true (by kernel_rfl); omega⟩
set_option maxRecDepth 100000 in
theorem keyA_of {b : Int} {v : ByteArray} (hb : (Lit.int .i64 b).wf = true) (hv : v.size ≤ maxLen) : keyOf Tryd.prog 84 (keyA b v) = some (klA b v) := by
  obtain ⟨n1, n2, hu, _⟩ := acc_under
  obtain ⟨n, hn⟩ := acc_size
  unfold keyOf keyA
  rw [hu]
  simp only
  have hf : (Value.agg #[.int .i64 b, .string v]).formed Tryd.prog 84 = true := by simp [Value.formed, hu, accd_cells]
  rw [acc_key, hf]
  rw [hn]
  have : (Value.agg #[.int .i64 b, .string v]).cells.toList = [.int .i64 b, .string v] := rfl
  rw [this, keyLits_acc, keyLits_int, keyLits_str]
  simp [hb, hv, klA]
set_option maxRecDepth 100000 in
theorem keyA_inv {key : Value} {kl : Lit} (h : keyOf Tryd.prog 84 key = some kl) : ∃ b v, key = keyA b v ∧ kl = klA b v ∧ (Lit.int .i64 b).wf = true ∧ v.size ≤ maxLen := by
  obtain ⟨xs, L, rfl, hl, rfl⟩ := keyOf_top acc_wide h
  obtain ⟨n1, n2, hu, h1, h2, ht1, ht2, ho1, ho2⟩ := acc_under
  obtain ⟨n, hn⟩ := acc_size
  obtain ⟨l⟩ := xs
  have hlen : l.length = 2 := by
    rw [hn, keyLits_struct hu] at hl
    split at hl
    · rename_i hc
      rw [← accd_cells]; exact hc.1
    · cases hl
  match l, hlen with
  | [c0, c1], _ =>
    rw [hn] at hl
    rw [keyLits_acc, keyLits_int, keyLits_str] at hl
    cases c0 with
    | int q b =>
      cases c1 with
      | string v =>
        simp only at hl
        by_cases hq : q = .i64 ∧ (Lit.int .i64 b).wf = true
        · by_cases hv : v.size ≤ maxLen
          · rw [if_pos hq, if_pos hv] at hl
            simp only [Option.some.injEq] at hl
            subst hl
            obtain ⟨rfl, hw⟩ := hq
            exact ⟨b, v, rfl, rfl, hw, hv⟩
          · rw [if_pos hq, if_neg hv] at hl; cases hl
        · rw [if_neg hq] at hl; cases hl
      | _ => first | (simp at hl; done) | (simp only at hl; split at hl <;> simp_all)
    | _ => first | (simp at hl; done) | (simp only at hl; split at hl <;> simp_all)
theorem klA_inj {b b' : Int} {v v' : ByteArray} (hb : (Lit.int .i64 b).wf = true) (hv : v.size ≤ maxLen) (hb' : (Lit.int .i64 b').wf = true) (hv' : v'.size ≤ maxLen) (h : klA b v = klA b' v') : b = b' ∧ v = v' := by
  have h1 := keyA_of hb hv
  rw [h] at h1
  have := kAcc.inj h1 (keyA_of hb' hv')
  unfold keyA at this
  simp at this
  exact this
theorem klA_same {b b' : Int} {v v' : ByteArray} (hb : (Lit.int .i64 b).wf = true) (hv : v.size ≤ maxLen) (hb' : (Lit.int .i64 b').wf = true) (hv' : v'.size ≤ maxLen) : (klA b v).sameKey (klA b' v') = decide (b = b' ∧ v = v') := by
  by_cases h : b = b' ∧ v = v'
  · rw [decide_eq_true h, h.1, h.2]
    exact WideAt.sameKey_self (kAcc.key (keyA_of hb' hv'))
  · rw [decide_eq_false h]
    exact sameKey_ne fun e => h (klA_inj hb hv hb' hv' e)
end Go.Proofs.YtgfjmplifmbmlaaDoor
