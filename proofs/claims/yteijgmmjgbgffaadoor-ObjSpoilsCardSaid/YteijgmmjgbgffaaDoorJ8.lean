/- For every input ObjSpoils returns true, and what came in reads as it did: no condition. -/
import Derived.Test.YteijgmmjgbgffaaDoorJ4
import Derived.Test.YteijgmmjgbgffaaDoorBT
import Derived.Test.YteijgmmjgbgffaaDoorVcOpen
namespace Go.Proofs.YteijgmmjgbgffaaDoor
open Go.V
open Go.ChangeShapes Go.WideShapes Go.ChangeAt Go.RowKit
theorem prs_pairwise (M : Nat → Nat → Bool) (n : Nat) : (prs M n).Pairwise fun p q => lexL p q = true := by
  unfold prs
  rw [List.pairwise_flatMap]
  refine ⟨fun x _ => ?_, ?_⟩
  · rw [List.pairwise_map]
    unfold els
    refine (List.Pairwise.filter _ List.pairwise_lt_range).imp fun {a b} h => ?_
    unfold lexL; rw [decide_eq_true_eq]; dsimp only; omega
  · refine List.pairwise_lt_range.imp fun {a b} h p hp q hq => ?_
    obtain ⟨y, _, rfl⟩ := List.mem_map.1 hp
    obtain ⟨z, _, rfl⟩ := List.mem_map.1 hq
    unfold lexL; rw [decide_eq_true_eq]; dsimp only; omega
theorem risB_of {ps : List (Int × Int)} (h : ps.Pairwise fun p q => lexL p q = true) : risB ps = true := by
  unfold risB risTo
  rw [List.all_eq_true]
  intro k hk
  have hk := List.mem_range.1 hk
  by_cases h0 : k = 0
  · rw [decide_eq_true h0]; rfl
  · rw [getD_at (by omega), getD_at hk, List.pairwise_iff_getElem.1 h (k - 1) k (by omega) hk (by omega)]
    simp
theorem chkO_prs {ls : List BL} {M : Nat → Nat → Bool} (h0 : labE ls = 0) (hs : Sup M ls.length) : chkO ls (prs (clo M ls.length) ls.length) = 0 := by
  unfold chkO
  rw [if_neg (by rw [h0]; simp), if_pos ?_]
  rw [risB_of (prs_pairwise _ _), okP_prs]
  unfold trB
  rw [ofM_prs (clo_sup hs), clo_clo hs, sameM_refl]; rfl
/-- Neighbours; all that are ahead. -/
def chn (i : Nat) : Nat → Nat → Bool := fun x y => decide (x + 1 = y ∧ y < i)
def ltM (n : Nat) : Nat → Nat → Bool := fun x y => decide (x < y ∧ y < n)
theorem chn_sup (n : Nat) : Sup (chn n) n := fun x y h => decide_eq_false (by omega)
theorem ltM_sup (n : Nat) : Sup (ltM n) n := fun x y h => decide_eq_false (by omega)
theorem ltM_tr (n : Nat) : Tr (ltM n) := fun x y z h1 h2 => by
  unfold ltM at *
  rw [decide_eq_true_eq] at *; omega
theorem clo_chn (n : Nat) : clo (chn n) n = ltM n := by
  funext x y
  rw [Bool.eq_iff_iff]
  constructor
  · exact clo_least (chn_sup n) (ltM_tr n) fun a b h => by
      unfold chn at h; unfold ltM
      rw [decide_eq_true_eq] at *; omega
  · intro h
    unfold ltM at h
    rw [decide_eq_true_eq] at h
    have : ∀ d z, z = x + 1 + d → z < n → clo (chn n) n x z = true := by
      intro d
      induction d with
      | zero => exact fun z hz hn => clo_ge (chn_sup n) (by unfold chn; rw [decide_eq_true_eq]; omega)
      | succ d ih => exact fun z hz hn => clo_tr (chn_sup n) x (z - 1) z (ih (z - 1) (by omega) (by omega)) (clo_ge (chn_sup n) (by unfold chn; rw [decide_eq_true_eq]; omega))
    exact this (y - x - 1) y (by omega) h.2
theorem addM_chn {k i : Nat} (_ : 0 < i) (hi : i < k) : addM (chn i) k ((i : Int) - 1) (i : Nat) = chn (i + 1) := by
  funext x y
  unfold addM chn
  rw [Bool.eq_iff_iff, Bool.or_eq_true, decide_eq_true_eq, decide_eq_true_eq, decide_eq_true_eq]
  omega
def labs (k : Nat) : List BL := (List.range k).map fun i => [UInt8.ofNat (97 + i)]
theorem labs_len (k : Nat) : (labs k).length = k := by simp [labs]
theorem labs_succ (k : Nat) : labs (k + 1) = labs k ++ [[UInt8.ofNat (97 + k)]] := by unfold labs; rw [List.range_succ, List.map_append]; rfl
def psO (k : Nat) : List (Int × Int) := prs (ltM k) k
def ps0 (k : Nat) : List (Int × Int) := (psO k).take 1 ++ (psO k).drop 2
def ps1 (k : Nat) : List (Int × Int) := ((psO k).set 0 (0, 2)).set 1 (0, 1)
def ps2 (k : Nat) : List (Int × Int) := psO k ++ [((k : Int), 0)]
def ls3 (k : Nat) : List BL := (labs k).set 0 (List.replicate 61 0)
theorem ps1_get {k i : Nat} (h : i < (ps1 k).length) (h' : i < (psO k).length) : (ps1 k)[i] = if 1 = i then (0, 1) else if 0 = i then (0, 2) else (psO k)[i] := by
  have h2 : i < (((psO k).set 0 (0, 2)).set 1 (0, 1)).length := h
  show (((psO k).set 0 (0, 2)).set 1 (0, 1))[i]'h2 = _
  rw [List.getElem_set, List.getElem_set]
theorem few_facts : ([3, 4, 5, 6, 7, 8, 9, 10, 11, 12] : List Nat).all (fun k => decide (2 * (psO k).length = k * (k - 1)) && (decide ((psO k)[0]? = some (0, 1)) && (decide ((psO k)[1]? = some (0, 2)) && (decide (labE (labs k) = 0) && (decide (labE (ls3 k) = 10) &&
    (!risB (ps1 k) && (!okP (ps2 k) k && (ofM (ps0 k) k 0 1 && (ofM (ps0 k) k 1 2 && !ofM (ps0 k) k 0 2))))))))) = true := by kernel_rfl
theorem few_fact {k : Nat} (h3 : 3 ≤ k) (h12 : k ≤ 12) : 2 * (psO k).length = k * (k - 1) ∧ (psO k)[0]? = some (0, 1) ∧ (psO k)[1]? = some (0, 2) ∧ labE (labs k) = 0 ∧ labE (ls3 k) = 10 ∧ risB (ps1 k) = false ∧ okP (ps2 k) k = false ∧ ofM (ps0 k) k 0 1 = true ∧ ofM (ps0 k) k 1 2 = true ∧ ofM (ps0 k) k 0 2 = false := by
  have h := List.all_eq_true.1 few_facts k (by simp; omega)
  simpa only [Bool.and_eq_true, decide_eq_true_eq, Bool.not_eq_true'] using h
theorem chk10 {ls : List BL} {ps : List (Int × Int)} (h : labE ls = 0) (h' : (risB ps && okP ps ls.length && trB ps ls.length) = false) : chkO ls ps = 10 := by
  unfold chkO; rw [if_neg (by rw [h]; simp), if_neg (by rw [h']; simp)]
theorem spoil0 {k : Nat} (h3 : 3 ≤ k) (h12 : k ≤ 12) : chkO (labs k) (ps0 k) = 10 := by
  obtain ⟨_, _, _, f4, _, _, _, f8, f9, f10⟩ := few_fact h3 h12
  refine chk10 f4 ?_
  rw [labs_len]
  have : trB (ps0 k) k = false := by
    unfold trB
    cases e : sameM (ofM (ps0 k) k) (clo (ofM (ps0 k) k) k) k with
    | false => rfl
    | true =>
      have ht := (trB_iff (n := k) (M := ofM (ps0 k) k) (fun x y h => by unfold ofM; rw [decide_eq_false (by omega), Bool.false_and])).1 e
      rw [ht 0 1 2 f8 f9] at f10; cases f10
  rw [this, Bool.and_false]
theorem spoil1 {k : Nat} (h3 : 3 ≤ k) (h12 : k ≤ 12) : chkO (labs k) (ps1 k) = 10 := by
  obtain ⟨_, _, _, f4, _, f6, _⟩ := few_fact h3 h12
  exact chk10 f4 (by rw [f6]; rfl)
theorem spoil2 {k : Nat} (h3 : 3 ≤ k) (h12 : k ≤ 12) : chkO (labs k) (ps2 k) = 10 := by
  obtain ⟨_, _, _, f4, _, _, f7, _⟩ := few_fact h3 h12
  exact chk10 f4 (by rw [labs_len, f7, Bool.and_false]; rfl)
theorem spoil3 {k : Nat} (h3 : 3 ≤ k) (h12 : k ≤ 12) (ps : List (Int × Int)) : chkO (ls3 k) ps = 10 := by
  obtain ⟨_, _, _, _, f5, _⟩ := few_fact h3 h12
  unfold chkO; rw [f5]; rfl
theorem good {k : Nat} (h3 : 3 ≤ k) (h12 : k ≤ 12) : chkO (labs k) (psO k) = 0 := by
  obtain ⟨_, _, _, f4, _⟩ := few_fact h3 h12
  have := chkO_prs (M := chn k) f4 (by rw [labs_len]; exact chn_sup k)
  rw [labs_len, clo_chn] at this
  exact this
theorem tot {k : Nat} : totB (ltM k) k = true := by
  unfold totB ordB
  rw [Bool.and_eq_true, List.all_eq_true, List.all_eq_true]
  refine ⟨fun a _ => by unfold ltM; simp, fun a ha => List.all_eq_true.2 fun b hb => ?_⟩
  have ha := List.mem_range.1 ha
  have hb := List.mem_range.1 hb
  unfold ltM
  rw [Bool.or_eq_true, Bool.or_eq_true, decide_eq_true_eq, decide_eq_true_eq, decide_eq_true_eq]
  omega
theorem Sn_slice {α : Type} {n : Nat} {f : α → List Value} {H : Hp} {p : Option Addr} {l c : Nat} {xs : List α} (h : Sn n f H p l c xs) {j k : Nat} (hjk : j ≤ k) (hk : k ≤ xs.length) : Sn n f H (movA p j n c) (k - j) (c - j) ((xs.take k).drop j) := by
  refine ⟨by simp; omega, by have := h.1; have := h.2.1; omega, ?_⟩
  by_cases hj : j = k
  · left; rw [hj]; simp
  · obtain ⟨b, o, hp, h'⟩ := h.at (i := j) (by omega)
    have hc : ¬ c = j := by have := h.1; have := h.2.1; omega
    have hm : mulS j n = j * n := by
      unfold mulS
      cases h : Nat.beq n 1 with
      | false => rfl
      | true => have := Nat.eq_of_beq_eq_true h; subst this; simp
    refine .inr ⟨b, o + j * n, by subst hp; simp [movA, hc, hm], fun i hi j' v e => ?_⟩
    simp at hi
    have := h' (j + i) (by omega) j' v (by simpa using e)
    rw [Nat.add_mul] at this
    rw [Nat.add_assoc o]; exact this
theorem prs_cells (l : List (Int × Int)) : (l.flatMap pairC).all isCell = true := List.all_eq_true.2 fun v hv => by
  obtain ⟨x, _, hx⟩ := List.mem_flatMap.1 hv
  simp only [pairC, List.mem_cons, List.not_mem_nil, or_false] at hx
  rcases hx with rfl | rfl <;> rfl
section
variable {B Hx : Hp} {k b c : Nat} {lp pp lp' pp' : Option Addr} {ll lc pl pc ll' lc' pl' pc' : Nat} {ls : List BL} {ps : List (Int × Int)} {Hin : Hp}
theorem spoils_k2 (h3 : 3 ≤ k) (h12 : k ≤ 12) (hb : D2 Hx b lp ll lc pp pl pc) (hc : D2 Hx c lp' ll' lc' pp' pl' pc') (hL : Sl sv Hx lp ll lc (labs k)) (hP : Sn 2 pairC Hx pp pl pc (psO k)) (hL' : Sl sv Hx lp' ll' lc' ls) (hP' : Sn 2 pairC Hx pp' pl' pc' ps) (hT : Tz Hx) (hle : Le Hin Hx)
    (h10 : chkO ls ps = 10) (hne : labs k ≠ ls ∨ psO k ≠ ps) (_ : ll' ≤ 1000) (hp : pl' ≤ 1000) : centolaw4_ObjSpoils.k2 (fun r H' => r = true ∧ Le Hin H') c b Hx := by
  unfold centolaw4_ObjSpoils.k2
  have e1 := hL.len
  have e2 := hP.len
  rw [labs_len] at e1
  have hpl : pl ≤ 1000 := by
    have := prs_len_le (ltM k) k
    have := Nat.mul_le_mul h12 h12
    have e3 : (psO k).length = (prs (ltM k) k).length := rfl
    omega
  refine hc.get (obj_Check.c hL' hP' hT (by omega) fun H1 le1 => ?_)
  rw [h10]
  refine bcd (fun _ => ?_) fun h => absurd rfl h
  refine (hb.le le1).get ((hc.le le1).get (obj_Same.c (hL.le le1) (hP.le le1) (hL'.le le1) (hP'.le le1) (by omega) (by omega) fun H2 le2 => ?_))
  have l2 := le1.trans le2
  have e : (decide (labs k = ls) && decide (psO k = ps)) = false := by
    rw [Bool.and_eq_false_iff, decide_eq_false_iff_not, decide_eq_false_iff_not]
    exact hne
  rw [e]
  refine bcn (fun _ => ?_) fun h => by cases h
  refine (hc.le l2).get (obj_Rel.c (hL'.le l2) (hP'.le l2) (hT.le l2) (by omega) fun R O H3 u3 _ le3 => rel_Rel_Len.c u3 ?_)
  have l3 := l2.trans le3
  have n0 : nO ls ps = 0 := by unfold nO; rw [h10]; rfl
  rw [n0]
  refine bcd (fun _ => ?_) fun h => absurd rfl h
  refine (hb.le l3).get (obj_Is.c (hL.le l3) (hP.le l3) (hT.le l3) (by omega) fun H4 le4 => ?_)
  have l4 := l3.trans le4
  rw [good h3 h12]
  refine bc_i (fun _ => ?_) fun h => absurd h (by decide)
  refine (hb.le l4).get (obj_Rel.c (hL.le l4) (hP.le l4) (hT.le l4) (by omega) fun R O H5 u5 _ le5 => ?_)
  have n1 : nO (labs k) (psO k) = k := by unfold nO; rw [good h3 h12, if_pos rfl, labs_len]
  rw [n1] at u5
  have em : ofM (psO k) k = ltM k := ofM_prs (ltM_sup k)
  rw [em] at u5
  refine order_IsTotal.c (.inr ⟨R, O, rfl, u5⟩) (by omega) fun H6 le6 => ?_
  rw [clo_of_tr (ltM_sup k) (ltM_tr k), tot]
  exact ⟨rfl, hle.trans ((l4.trans le5).trans le6)⟩
theorem spoils_k1 {w : Nat} (h3 : 3 ≤ k) (h12 : k ≤ 12) (hb : D2 B b lp ll lc pp pl pc) (hL : Sl sv B lp ll lc (labs k)) (hP : Sn 2 pairC B pp pl pc (psO k)) (hT : Tz B) (hle : Le Hin B) : centolaw4_ObjSpoils.k1 (fun r H' => r = true ∧ Le Hin H') b (w : Nat) (k : Nat) B := by
  unfold centolaw4_ObjSpoils.k1
  obtain ⟨f1, f2, f3, _⟩ := few_fact h3 h12
  have e1 := hL.len
  have e2 := hP.len
  rw [labs_len] at e1
  have hk2 : k * (k - 1) ≤ 12 * 11 := Nat.mul_le_mul h12 (by omega)
  have hk3 : 3 * 2 ≤ k * (k - 1) := Nat.mul_le_mul h3 (by omega)
  refine hb.get (obj_Copy.c hL hP (by omega) (by omega) fun lp2 lc2 pp2 pc2 H1 B1 B2 ap le1 => ?_)
  intro c hc
  have le2 : Le H1 (upd H1 c [.slice none 0 0, .slice none 0 0]) := Le.upd hc
  refine D2.new.put fun H2 d2 m2 => ?_
  have le12 : Le H1 H2 := m2.le le2 (by simpa using hc)
  have le02 : Le B H2 := le1.trans le12
  have B12 := B1.le le12
  have B22 := B2.le le12
  have hcB : B c = none := none_of_le le1 hc
  have nc1 : ∀ x ∈ blkL lp2, x ≠ c := fun x hx e => B1.there (blkL_mem B1.zero hx) (e ▸ hc)
  have nc2 : ∀ x ∈ blkL pp2, x ≠ c := fun x hx e => B2.there (blkL_mem B2.zero hx) (e ▸ hc)
  have S2 : Sn 2 pairC H2 pp2 pl pc2 (psO k) := B22.sn (f := pairC) (n := 2) (fun _ => rfl) (by decide)
  clear le2 m2 hc
  -- what is left to do
  have fin : ∀ {Hx : Hp} {lp' pp' : Option Addr} {ll' lc' pl' pc' : Nat} {ls : List BL} {ps : List (Int × Int)}, Le B Hx → D2 Hx c lp' ll' lc' pp' pl' pc' → Sl sv Hx lp' ll' lc' ls → Sn 2 pairC Hx pp' pl' pc' ps → chkO ls ps = 10 → (labs k ≠ ls ∨ psO k ≠ ps) → ll' ≤ 1000 → pl' ≤ 1000 → centolaw4_ObjSpoils.k2 (fun r H' => r = true ∧ Le Hin H') c b Hx :=
    fun hx hd hl hp h10 hne h1 h2 => spoils_k2 h3 h12 (hb.le hx) hd (hL.le hx) (hP.le hx) hl hp (hT.le hx) (hle.trans hx) h10 hne h1 h2
  refine ⟨by decide, bcd (fun _ => ?_) fun _ => bcd (fun _ => ?_) fun _ => bcd (fun _ => ?_) fun _ => ?_⟩
  · have hb2 := hb.le le02
    have hP2 := hP.le le02
    refine ldL_i hb2.2 (bnd01 1 rfl (by have := hP2.2.1; omega) (ldL_i hb2.2 (bnd10 2 rfl (by omega) ?_)))
    have sA := Sn_slice hP2 (j := 0) (k := 1) (by omega) (by omega)
    rw [List.drop_zero] at sA
    refine (Buf.none (s := 2) (A := H2) (H := H2)).appS (te := te_api_Pair) (n := 1 - 0) (new := ((psO k).take 1).flatMap pairC) rfl (by decide) rfl (by decide) (by rw [flatMap_len (n := 2) (fun _ => rfl), List.length_take]; omega) (prs_cells _) (by simp [te_api_Pair])
      (fun G hG => sn_src (f := pairC) (n := 2) (by decide) (fun _ => rfl) sA G hG) (fun p9 c9 H9 hB9 hp9 m9 => ?_) (Le.refl _).was
    have le9 : Le H2 H9 := Mod.nil m9
    have sB := Sn_slice (hP2.le le9) (j := 2) (k := pl) (by omega) (by omega)
    refine ⟨(hb2.le le9).2, ?_⟩
    refine hB9.appS (te := te_api_Pair) (n := pl - 2) (new := ((((psO k).take pl).drop 2).flatMap pairC)) rfl (by decide) rfl (by decide) (by rw [flatMap_len (n := 2) (fun _ => rfl), List.length_drop, List.length_take]; omega) (prs_cells _) (by simp [te_api_Pair]; omega)
      (fun G hG => sn_src (f := pairC) (n := 2) (by decide) (fun _ => rfl) sB G hG) (fun p10 c10 H10 hB10 hp10 m10 => ?_) le9.was
    have le10 : Le H2 H10 := m10.le le9 fun x hx => hB9.fr x 0 (blkL_mem hB9.zero hx)
    have et : ([] : List Value) ++ ((psO k).take 1).flatMap pairC ++ (((psO k).take pl).drop 2).flatMap pairC = (ps0 k).flatMap pairC := by
      rw [List.nil_append, List.take_of_length_le (i := pl) (by omega), ← List.flatMap_append]; rfl
    rw [et] at hB10
    have d10 := d2.le le10
    refine st d10.2 ?_
    have m11 : Mod [c] H10 (wr H10 c 1 (.slice p10 (0 + (1 - 0) + (pl - 2)) c10)) := Mod.refl.wr (.inl (by simp))
    refine fin (m11.le (le02.trans le10) (by simpa using hcB)) ⟨by rw [rd_wr_off (by decide)]; exact d10.1, rd_wr_self d10.2⟩ ((B12.le le10).mod m11 fun x o e hx => nc1 x (by simp [blkL, e]) (by simpa using hx)).sl ?_ (spoil0 h3 h12) (.inr fun e => ?_) (by omega) (by omega)
    · exact (hB10.mod m11 fun x o e hx => by simp at hx; subst hx; exact d2.there (hB10.fr x o e)).sn (f := pairC) (n := 2) (fun _ => rfl) (by decide)
    · have := congrArg List.length e
      unfold ps0 at this
      rw [List.length_append, List.length_take, List.length_drop] at this
      omega
  · obtain ⟨q, hq, hqH⟩ : ∃ q, pp2 = some ⟨q, 0, none⟩ ∧ B q = none := by
      rcases B2.2 with ⟨_, h0, _⟩ | ⟨q, _, h1, h2, _⟩
      · omega
      · exact ⟨q, h1, h2⟩
    have hqc : q ≠ c := nc2 q (by simp [blkL, hq])
    have g0 : (psO k)[0]'(by omega) = (0, 1) := by rw [List.getElem?_eq_getElem (by omega)] at f2; exact Option.some.inj f2
    have g1 : (psO k)[1]'(by omega) = (0, 2) := by rw [List.getElem?_eq_getElem (by omega)] at f3; exact Option.some.inj f3
    have rr : ∀ i (h : i < (psO k).length) j v, (pairC (psO k)[i])[j]? = some v → rd H2 q (i * 2 + j) = some v := by
      intro i h j v e
      obtain ⟨b', o', e1, e2⟩ := S2.at (i := i) h
      rw [hq] at e1
      simp only [Option.some.injEq, Addr.mk.injEq, and_true] at e1
      obtain ⟨rfl, rfl⟩ := e1
      have := e2 i h j v e
      rwa [Nat.zero_add] at this
    have r0 : rd H2 q 0 = some (.int .i64 0) := rr 0 (by omega) 0 _ (by rw [g0]; rfl)
    have r1 : rd H2 q 1 = some (.int .i64 1) := rr 0 (by omega) 1 _ (by rw [g0]; rfl)
    have r2 : rd H2 q 2 = some (.int .i64 0) := rr 1 (by omega) 0 _ (by rw [g1]; rfl)
    have r3 : rd H2 q 3 = some (.int .i64 2) := rr 1 (by omega) 1 _ (by rw [g1]; rfl)
    refine ldL_i d2.2 (ldL_i d2.2 (ldL_i d2.2 ?_))
    refine snP S2 (by decide) (by omega) fun _ => ldL_i d2.2 (snP S2 (by decide) (by omega) fun _ => ?_)
    refine idxN 0 rfl (by omega) ?_
    subst hq
    have v1 : (psO k)[(1 : Int).toNat]'(by simp; omega) = (0, 2) := g1
    have v0 : (psO k)[(0 : Int).toNat]'(by simp; omega) = (0, 1) := g0
    rw [v1, v0]
    refine nil (st (x := .int .i64 0) (by simpa using r0) (st (x := .int .i64 1) (by simpa using (rd_wr_off (v := .int .i64 0) (by decide)).trans r1) ⟨?_, ?_⟩))
    · have := d2.2
      rw [rd_wr_ne (Ne.symm hqc), rd_wr_ne (Ne.symm hqc)]; exact this
    refine idxN 1 rfl (by omega) (nil ?_)
    simp only [Nat.zero_add, Nat.zero_mul, Nat.one_mul]
    generalize hH3 : wr (wr H2 q 0 (.int .i64 0)) q 1 (.int .i64 2) = H3
    have a0 : rd H3 q 0 = some (.int .i64 0) := by rw [← hH3, rd_wr_off (by decide)]; exact rd_wr_self r0
    have a1 : rd H3 q 1 = some (.int .i64 2) := by rw [← hH3]; exact rd_wr_self (by rw [rd_wr_off (by decide)]; exact r1)
    have a2 : rd H3 q 2 = some (.int .i64 0) := by rw [← hH3, rd_wr_off (by decide), rd_wr_off (by decide)]; exact r2
    have a3 : rd H3 q 3 = some (.int .i64 2) := by rw [← hH3, rd_wr_off (by decide), rd_wr_off (by decide)]; exact r3
    have a4 : ∀ j, 4 ≤ j → rd H3 q j = rd H2 q j := fun j hj => by rw [← hH3, rd_wr_off (by omega), rd_wr_off (by omega)]
    have m3 : Mod [q] H2 H3 := by rw [← hH3]; exact (Mod.refl.wr (.inl (by simp))).wr (.inl (by simp))
    clear hH3
    refine st a2 (st (by rw [rd_wr_off (by decide)]; exact a3) ?_)
    generalize hH4 : wr (wr H3 q 2 (.int .i64 0)) q (2 + 1) (.int .i64 1) = H4
    have c0 : rd H4 q 0 = some (.int .i64 0) := by rw [← hH4, rd_wr_off (by decide), rd_wr_off (by decide)]; exact a0
    have c1 : rd H4 q 1 = some (.int .i64 2) := by rw [← hH4, rd_wr_off (by decide), rd_wr_off (by decide)]; exact a1
    have c2 : rd H4 q 2 = some (.int .i64 0) := by rw [← hH4, rd_wr_off (by decide)]; exact rd_wr_self a2
    have c3 : rd H4 q 3 = some (.int .i64 1) := by rw [← hH4]; exact rd_wr_self (by rw [rd_wr_off (by decide)]; exact a3)
    have c4 : ∀ j, 4 ≤ j → rd H4 q j = rd H2 q j := fun j hj => by rw [← hH4, rd_wr_off (by omega), rd_wr_off (by omega)]; exact a4 j hj
    have m4 : Mod [q] H2 H4 := by rw [← hH4]; exact (m3.wr (.inl (by simp))).wr (.inl (by simp))
    have l1 : (ps1 k).length = (psO k).length := by unfold ps1; rw [List.length_set, List.length_set]
    refine fin (m4.le le02 (by simpa using hqH)) (d2.mod m4 (by simpa using Ne.symm hqc)) (B12.mod m4 fun x o e hx => ap x (by simp [blkL, e]) (by simpa [blkL] using hx)).sl (ps := ps1 k) ⟨by rw [l1]; exact S2.1, S2.2.1, .inr ⟨q, 0, rfl, fun i hi j v e => ?_⟩⟩ (spoil1 h3 h12) (.inr fun e => ?_) (by omega) (by omega)
    · rw [l1] at hi
      rw [Nat.zero_add]
      by_cases i0 : i = 0
      · subst i0
        have : (ps1 k)[0]'(by omega) = (0, 2) := by rw [ps1_get _ (by omega)]; rfl
        rw [this] at e
        match j, e with
        | 0, e => simp [pairC] at e; subst e; exact c0
        | 1, e => simp [pairC] at e; subst e; exact c1
        | j + 2, e => simp [pairC] at e
      · by_cases i1 : i = 1
        · subst i1
          have : (ps1 k)[1]'(by omega) = (0, 1) := by rw [ps1_get _ (by omega)]; rfl
          rw [this] at e
          match j, e with
          | 0, e => simp [pairC] at e; subst e; exact c2
          | 1, e => simp [pairC] at e; subst e; exact c3
          | j + 2, e => simp [pairC] at e
        · have : (ps1 k)[i]'(by omega) = (psO k)[i] := by rw [ps1_get _ (by omega), if_neg (by omega), if_neg (by omega)]
          rw [this] at e
          rw [c4 _ (by omega)]
          exact rr i hi j v e
    · have h1 := congrArg (fun l : List (Int × Int) => l[0]?) e
      have h2 : (ps1 k)[0]? = some (0, 2) := by unfold ps1; rw [List.getElem?_set_ne (by decide), List.getElem?_set_self (by omega)]
      simp only [f2, h2] at h1
      exact absurd h1 (by decide)
  · refine ldL_i d2.2 (B22.pushS (te := te_api_Pair) (new := [.int .i64 (k : Nat), .int .i64 0]) rfl (by decide) rfl (by decide) rfl rfl (by simp [te_api_Pair]; omega) (fun p' c' H3 hB3 hp m3 => ?_) le02.was)
    have d3 := d2.mod m3 (fun h => nc2 c h rfl)
    refine st d3.2 ?_
    have m4 : Mod [c] H3 (wr H3 c 1 (.slice p' (pl + 1) c')) := Mod.refl.wr (.inl (by simp))
    have le03 : Le B H3 := m3.le le02 fun x hx => B2.fr x 0 (blkL_mem B2.zero hx)
    have np : ∀ x o, p' = some ⟨x, o, none⟩ → x ∉ [c] := fun x o e hx => by
      simp at hx; subst hx
      rcases hp with rfl | hp
      · exact nc2 x (by simp [blkL, e]) rfl
      · exact d2.there (hp x o e)
    refine fin (m4.le le03 (by simpa using hcB)) ⟨by rw [rd_wr_off (by decide)]; exact d3.1, rd_wr_self d3.2⟩ ((B12.mod m3 fun x o e hx => ap x (by simp [blkL, e]) hx).mod m4 fun x o e hx => nc1 x (by simp [blkL, e]) (by simpa using hx)).sl (ps := ps2 k) ?_ (spoil2 h3 h12) (.inr fun e => ?_) (by omega) (by omega)
    · refine Buf.sn (f := pairC) (n := 2) (A := B) (fun _ => rfl) (by decide) ?_
      unfold ps2
      rw [List.flatMap_append]
      exact hB3.mod m4 np
    · have := congrArg List.length e
      unfold ps2 at this
      simp at this
  · obtain ⟨q, hq, hqH⟩ : ∃ q, lp2 = some ⟨q, 0, none⟩ ∧ B q = none := by
      rcases B1.2 with ⟨_, h0, _⟩ | ⟨q, _, h1, h2, _⟩
      · omega
      · exact ⟨q, h1, h2⟩
    have hqc : q ≠ c := nc1 q (by simp [blkL, hq])
    have S1 := B12.sl
    subst hq
    have rr : ∀ i (h : i < (labs k).length), rd H2 q i = some (sv (labs k)[i]) := by
      intro i h
      obtain ⟨b', o', e1, e2⟩ := S1.at (i := i) h
      simp only [Option.some.injEq, Addr.mk.injEq, and_true] at e1
      obtain ⟨rfl, rfl⟩ := e1
      have := e2 i h
      rwa [Nat.zero_add] at this
    have hlk := labs_len k
    refine ldL_i d2.1 ⟨61, 61, rfl, rfl, Nat.le_refl _, by decide, by decide, ?_⟩
    intro b7 hb7
    have le3 : Le H2 (upd H2 b7 (rep 61 [.int .u8 (0 : Int)] ++ [tyM 5 0 0])) := Le.upd hb7
    refine ⟨(d2.le le3).1, ?_⟩
    refine ⟨List.replicate 61 0, by simp, fun i x hx => ?_, ?_⟩
    · rw [List.getElem?_replicate] at hx
      split at hx
      · rename_i hi
        rw [Nat.zero_add, rd_upd_self, List.getElem?_append_left (by simp [rep]; exact hi)]
        show ((List.replicate 61 (Value.int .u8 0))[i]?).bind nmO = _
        rw [List.getElem?_replicate, if_pos hi, ← Option.some.inj hx]; rfl
      · cases hx
    generalize upd H2 b7 (rep 61 [.int .u8 (0 : Int)] ++ [tyM 5 0 0]) = H3 at *
    refine ⟨(d2.le le3).1, idxN 0 rfl (by omega) (nil (st (by simpa using le3.rd (rr 0 (by omega))) ?_))⟩
    rw [Nat.zero_add]
    have m4 : Mod [q] H3 (wr H3 q 0 (.string ⟨⟨List.replicate 61 0⟩⟩)) := Mod.refl.wr (.inl (by simp))
    have hq2 : q ∈ blkL (some ⟨q, 0, none⟩) := by simp [blkL]
    refine fin (m4.le (le02.trans le3) (by simpa using hqH)) ((d2.le le3).mod m4 (by simpa using Ne.symm hqc)) (ls := ls3 k) ⟨by unfold ls3; rw [List.length_set]; exact S1.1, S1.2.1, .inr ⟨q, 0, rfl, fun i hi => ?_⟩⟩ (((B22.le le3).mod m4 fun x o e hx => ap q hq2 (by simp at hx; subst hx; simp [blkL, e])).sn (f := pairC) (n := 2) (fun _ => rfl) (by decide)) (spoil3 h3 h12 _) (.inl fun e => ?_) (by omega) (by omega)
    · unfold ls3 at hi ⊢
      rw [List.length_set] at hi
      rw [Nat.zero_add, List.getElem_set]
      by_cases i0 : 0 = i
      · subst i0
        rw [if_pos rfl]
        exact rd_wr_self (le3.rd (rr 0 hi))
      · rw [if_neg i0, rd_wr_off (Ne.symm i0)]
        exact le3.rd (rr i hi)
    · have h1 := congrArg (fun l : List BL => (l[0]?).map List.length) e
      unfold ls3 at h1
      rw [List.getElem?_set_self (by omega)] at h1
      have : (labs k)[0]? = some [UInt8.ofNat 97] := by unfold labs; rw [List.getElem?_map, List.getElem?_range (by omega)]; rfl
      simp [this] at h1
end
theorem none_of_mod' {H H' : Hp} {O : List Nat} (h : Mod O H H') {x : Nat} (hx : x ∉ O) (e : H' x = none) : H x = none := by
  cases hh : H x with
  | none => rfl
  | some c => rw [h x hx _ hh] at e; cases e
theorem objSpoils_law {n w : Int} {H : Hp} (wn : (Lit.int .u8 n).wf = true) (ww : (Lit.int .u8 w).wf = true) (hT : Tz H) : centolaw4_ObjSpoils.C n w H fun r H' => r = true ∧ Le H H' := by
  apply centolaw4_ObjSpoils.of
  have bn := wf_u8 wn
  have bw := wf_u8 ww
  obtain ⟨n, rfl⟩ : ∃ k : Nat, n = k := ⟨n.toNat, by omega⟩
  obtain ⟨w, rfl⟩ : ∃ k : Nat, w = k := ⟨w.toNat, by omega⟩
  refine centolaw4_known.c hT fun H0 le0 => bcn (fun h => by cases h) fun _ => ⟨by decide, ?_⟩
  rw [show (10 : Int) = ((10 : Nat) : Int) from rfl, ← Int.ofNat_tmod]
  have hm : n % 10 < 10 := Nat.mod_lt _ (by decide)
  generalize n % 10 = j at hm
  refine chk (by omega) (chk (by omega) ?_)
  rw [show ((j : Nat) : Int) + 3 = ((j + 3 : Nat) : Int) by omega]
  obtain ⟨k, hk⟩ : ∃ k, k = j + 3 := ⟨_, rfl⟩
  rw [← hk]
  have h3 : 3 ≤ k := by omega
  have h12 : k ≤ 12 := by omega
  obtain ⟨f1, f2, f3, f4, _⟩ := few_fact h3 h12
  refine rel_New.c (hT.le le0) fun R O H1 u1 hO le1 => ?_
  rw [show (min (max ((k : Nat) : Int) 0) 200).toNat = k by omega] at u1
  have le01 := le0.trans le1
  have hOH : ∀ b ∈ O, H b = none := fun b hb => none_of_le le0 (hO b hb)
  have hO1 := u1.there
  refine ⟨fun p l c i Hx => ∃ t : Nat, i = (t : Nat) ∧ t ≤ k ∧ l = t ∧ Le H Hx ∧ Was H1 Hx ∧ Buf 1 H1 Hx p l c ((labs t).map sv) ∧ RLO Hx R O k (chn t), fun _ _ _ i _ => ((k : Int) - i).toNat,
    ⟨0, rfl, Nat.zero_le _, rfl, le01, (Le.refl _).was, Buf.none, u1.congr fun a b => by unfold chn; exact decide_eq_false (by omega)⟩, ?_⟩
  rintro p l c i H2 ⟨t, rfl, gt, rfl, le2, was2, hB2, u2⟩
  refine bcd (fun hlt => ?_) (fun hlt => ?_)
  · have hw8 : IntKind.wrap .u8 ((l : Nat) : Int) = ((l : Nat) : Int) := by
      rw [show ∀ n : Int, IntKind.wrap .u8 n = n % 256 from fun n => by simp [IntKind.wrap, IntKind.bits, IntKind.signed]]; omega
    rw [hw8]
    have hu : (UInt8.ofNat (97 + l)).toNat = 97 + l := UInt8.toNat_ofNat_of_lt' (show 97 + l < 256 by omega)
    refine chkU8 (by omega) ?_
    rw [show (97 : Int) + ((l : Nat) : Int) = (((UInt8.ofNat (97 + l)).toNat : Nat) : Int) by rw [hu]; omega]
    intro b3 hb3
    have le3 : Le H2 (upd H2 b3 ([.int .u8 (((UInt8.ofNat (97 + l)).toNat : Nat) : Int)] ++ [tyM 5 0 0])) := Le.upd hb3
    have r3 : rd (upd H2 b3 ([.int .u8 (((UInt8.ofNat (97 + l)).toNat : Nat) : Int)] ++ [tyM 5 0 0])) b3 0 = some (.int .u8 (((UInt8.ofNat (97 + l)).toNat : Nat) : Int)) := by rw [rd_upd_self]; rfl
    generalize upd H2 b3 ([.int .u8 (((UInt8.ofNat (97 + l)).toNat : Nat) : Int)] ++ [tyM 5 0 0]) = H3 at *
    refine ⟨[UInt8.ofNat (97 + l)], rfl, fun i x hx => ?_, ?_⟩
    · match i, hx with
      | 0, hx => obtain rfl : _ = x := Option.some.inj hx; exact r3
      | i + 1, hx => simp at hx
    refine (hB2.le le3).pushS (te := te_string) (new := [sv [UInt8.ofNat (97 + l)]]) rfl (by decide) rfl (by decide) rfl rfl (by simp [te_string]; omega) (fun p' c' H4 hB4 hp m4 => ?_) (was2.trans le3.was)
    have le4 : Le H H4 := m4.le (le2.trans le3) fun x hx => none_of_le le01 (hB2.fr x 0 (blkL_mem hB2.zero hx))
    have dis : ∀ x ∈ blkL p, x ∉ O := fun x hx hx' => hO1 x hx' (hB2.fr x 0 (blkL_mem hB2.zero hx))
    have hg : gTab ∉ blkL p := fun hx => u1.tz.there (hB2.fr gTab 0 (blkL_mem hB2.zero hx))
    have u4 : RLO H4 R O k (chn l) := (u2.le le3).mod m4 dis hg
    have was4 : Was H1 H4 := fun x e => by
      by_cases hx : x ∈ blkL p
      · exact hB2.fr x 0 (blkL_mem hB2.zero hx)
      · exact (was2.trans le3.was) x (none_of_mod' m4 hx e)
    have eB : (labs l).map sv ++ [sv [UInt8.ofNat (97 + l)]] = (labs (l + 1)).map sv := by rw [labs_succ, List.map_append]; rfl
    rw [eB] at hB4
    refine bcd (fun hpos => chk (by omega) (rel_Rel_Add.c u4 fun H5 u5 m5 => ?_)) fun hz => ?_
    · rw [addM_chn (by omega) (by omega)] at u5
      refine chk (by omega) ⟨⟨l + 1, by omega, by omega, rfl, m5.le le4 hOH, was4.trans (m5.was u5.there), hB4.mod m5 fun x o e hx => hO1 x hx (hB4.fr x o e), u5⟩, by first | omega | (dsimp only; omega)⟩
    · have : l = 0 := by omega
      subst this
      refine chk (by omega) ⟨⟨1, by omega, by omega, rfl, le4, was4, hB4, u4.congr fun a b => ?_⟩, by first | omega | (dsimp only; omega)⟩
      unfold chn
      exact decide_eq_decide.2 (by omega)
  · have : l = k := by omega
    subst this
    have hS := hB2.sl
    have e0 : makE (labs l) l = 0 := by unfold makE; rw [if_neg (by rw [f4]; simp), if_neg (by rw [labs_len]; simp)]
    refine obj_Make.c hS (.inr ⟨R, O, rfl, u2⟩) (by omega) (fun h => absurd e0 h) fun _ lp lc pp pl pc H3 sL sP le3 => ?_
    rw [clo_chn] at sP
    have sP : Sn 2 pairC H3 pp pl pc (psO l) := sP
    have le03 := le2.trans le3
    intro b hb
    refine D2.new.put fun H4 d4 m4 => ?_
    have le34 : Le H3 H4 := m4.le (Le.upd hb) (by simpa using hb)
    have le04 := le03.trans le34
    refine bcd (fun h => absurd rfl h) fun _ => ?_
    refine d4.get (obj_Is.c (sL.le le34) (sP.le le34) (hT.le le04) (by have := sP.len; have : l * (l - 1) ≤ 12 * 11 := Nat.mul_le_mul h12 (by omega); omega) fun H5 le5 => ?_)
    rw [good h3 h12]
    refine bcn (fun h => absurd h (by decide)) fun _ => ?_
    have hq : l * (l - 1) ≤ 12 * 11 := Nat.mul_le_mul h12 (by omega)
    refine ldL_i (d4.le le5).2 (chk (by omega) ?_)
    rw [show ((l : Nat) : Int) - 1 = ((l - 1 : Nat) : Int) by omega, show ((l : Nat) : Int) * ((l - 1 : Nat) : Int) = ((l * (l - 1) : Nat) : Int) by push_cast; rfl]
    refine chk (by omega) ⟨by decide, ?_⟩
    rw [show (2 : Int) = ((2 : Nat) : Int) from rfl, ← Int.ofNat_tdiv]
    have hpl := sP.len
    refine chk (by omega) (bcd (fun h => absurd (by omega) h) fun _ => ?_)
    exact spoils_k1 h3 h12 (d4.le le5) ((sL.le le34).le le5) ((sP.le le34).le le5) (hT.le (le04.trans le5)) (le04.trans le5)


theorem objSpoils_own : ownKnob Tryd.prog.godebug = none := by kernel_rfl
theorem objSpoils_laid : laidOutB Tryd.prog = true := by kernel_rfl
set_option maxRecDepth 100000 in
theorem objSpoils_lifted (os : Os) (started : os.Started) (H : Type) (enc : TypeId × Value → H) :
    ReturnsInHanded {} Tryd.checked os 6 .any (fun w args => (Rows.objSpoilsSpec.pre enc Tryd.prog Tryd.f6 [] false w args ∧ laidMetH Tryd.prog laidTz w) ∧ sizedMet enc Tryd.prog Tryd.f6 (OpenSpec.ofChange Rows.objSpoilsSpec) false w args)
      (Rows.objSpoilsSpec.post enc Tryd.prog Tryd.f6 false true false false) := by
  refine returnsInHanded_of_change_and (C := Tryd.checked) (X := fun w _ => laidMetH Tryd.prog laidTz w) (fun _ _ _ hh h => h.of_heap hh) objSpoils_own started (by kernel_rfl) Tryd.func6
    (ChangeSpec.witness_shaped (enc := enc) (C := Tryd.checked) (os := os) (X := fun w _ => laidMetH Tryd.prog laidTz w) false (World.doorLaid Tryd.prog 400 os) #[.int .u8 0, .int .u8 0] 8 rfl (World.shaped_of_RefB (by kernel_rfl) (by kernel_rfl)) (by kernel_rfl) (by kernel_rfl) (by kernel_rfl) (door_met os _)) ?_
  intro W base args ds gs before hval0 hW _ _ hL _
  have hval : ∀ (j : Nat) t v, Tryd.f6.params[j]? = some t → args[j]? = some v → Value.okWide Tryd.prog W .any base t v := hval0
  have hW' := hW
  obtain ⟨p, q, hA0, hV, rfl, hfz, hnd⟩ := hW
  have hA : DataW.TrodAll enc Tryd.prog W 0 (fun _ => true) true Tryd.f6.params.toList args.toList ds p := hA0
  rw [Tryd.params6] at hA hval
  obtain ⟨v0, v1, d0, d1, p0, p1, rfl, rfl, rfl, h0, h1⟩ := trodAll_two hA
  obtain ⟨x0, rfl, rfl, rfl, w0⟩ := open_int Tryd.underlying5 (hval 0 5 v0 rfl rfl) h0
  obtain ⟨x1, rfl, rfl, rfl, w1⟩ := open_int Tryd.underlying5 (hval 1 5 v1 rfl rfl) h1
  refine (calls_true (objSpoils_law w0 w1 (tz_of_laid hL)) Tryd.func6 (by kernel_rfl)).mono fun e W' ⟨he, hk⟩ => ?_
  subst he
  exact ⟨_, rfl, post_true objSpoils_laid hW' (by kernel_rfl) rfl rfl rfl Tryd.underlying4 hk⟩

theorem objSpoils_row : Rows.ObjSpoilsSaid :=
  OpenClaim.holds_of_wide 6 Tryd.f6 rfl rfl rfl rfl rfl rfl rfl ⟨rfl, rfl, rfl, rfl, rfl⟩ rfl rfl rfl rfl rfl (by kernel_rfl) Tryd.func6 (by kernel_rfl)
    (of_decide_eq_true (by kernel_rfl)) (by unfold Func.isWrapper; first | (rw [if_pos (by decide +kernel)]; kernel_rfl) | (rw [if_neg (by decide +kernel)]; exact ⟨rfl, rfl⟩))
    (fun os started H enc _ => objSpoils_lifted os started H enc)

theorem objSpoils_card : Rows.ObjSpoilsCardSaid :=
  Claim7.holds_tied_plain_at .later [] [.data] true (true, "f1eba887bf2a15496a222adcf75d60a0462008cefa76589392225645476a6e39") false
    objSpoils_row (fun _ h => by cases h) (by kernel_rfl) (fun _ h => by cases h) objSpoils_row_tie rfl ⟨rfl, rfl⟩ (by kernel_rfl) rfl
    (fun f fn hf hfn => by
      obtain rfl : f = 6 := Option.some.inj ((show Tryd.prog.funcNamed Rows.objSpoilsRow.func = some 6 by kernel_rfl).symm.trans hf) |>.symm
      obtain rfl : fn = Tryd.f6 := (Option.some.inj (Tryd.func6.symm.trans hfn)).symm
      exact ⟨by kernel_rfl, fun j t ht => by
        rw [Tryd.params6] at ht
        have hm : t ∈ [5] := by
          have := Array.mem_of_getElem? ht
          simp at this
          first | (rcases this with rfl | rfl <;> simp) | simp [this]
        have hall : ([5].all fun u => !Tryd.prog.wantsStandIn u) = true := by kernel_rfl
        exact (show Tryd.prog.wantsStandIn t = false by simpa using List.all_eq_true.1 hall t hm)⟩)
    (by kernel_rfl)
end Go.Proofs.YteijgmmjgbgffaaDoor
