/- For every input SlotsPlay returns true, and what came in reads as it did: no condition. -/
import Derived.Test.YtjfohhgmapipnaaN7
import Derived.Test.YtjfohhgmapipnaaVcLift
import Derived.Test.YtjfohhgmapipnaaVcOpen
import Derived.Test.YtjfohhgmapipnaaRows
namespace Go.Proofs.Ytjfohhgmapipnaa
open Go.V
open Go.ChangeShapes Go.WideShapes Go.ChangeAt Go.RowKit
theorem rows_sn {α : Type} {E : Enc α} {f : α → List Value} (hf : ∀ {H cs x}, E.rep H cs x → cs = f x) {H : Hp} {p : Option Addr} {l k : Nat} {xs : List α} (h : E.rows H p l k xs) : Sn E.n f H p l k xs := by
  refine ⟨h.1, h.2.1, ?_⟩
  by_cases hn : xs = []
  · exact .inl hn
  · right
    have hpos : 0 < xs.length := List.length_pos_iff.2 hn
    obtain ⟨b, o, hp⟩ := h.2.2.2.1 (by have := h.1; have := h.2.1; omega)
    refine ⟨b, o, hp, fun i hi j v e => ?_⟩
    obtain ⟨cs, h2, h5⟩ := h.2.2.2.2 b o hp i hi
    refine h5 j v ?_
    rw [hf h2]
    exact e
/-- A step's cells. -/
def stC (x : ByteArray × Int × Int) : List Value := [.string x.1, .int .i64 x.2.1, .int .u64 x.2.2]
abbrev stE : Enc (ByteArray × Int × Int) := Enc.str.pair ((Enc.int .i64).pair (Enc.int .u64))
theorem stE_rep {H : Hp} {cs : List Value} {x : ByteArray × Int × Int} (h : stE.rep H cs x) : cs = stC x ∧ (Lit.int .i64 x.2.1).wf = true ∧ (Lit.int .u64 x.2.2).wf = true := by
  obtain ⟨c1, c2, rfl, ⟨rfl, _⟩, c3, c4, rfl, ⟨rfl, w2⟩, ⟨rfl, w4⟩⟩ := h
  exact ⟨rfl, w2, w4⟩
theorem decB {a b : BL} : (mkB a = mkB b) ↔ a = b := ⟨fun h => congrArg L h, fun h => by rw [h]⟩
/-- What Load tells. -/
def ldB' (v : Option BL) : BL := v.getD []
def ldE' (v : Option BL) : Int := if v = none then 25 else 0
theorem slots_Load.both {H : Hp} {d : Nat} {O : List Nat} {s : DS} {N m : Nat} {v : Option BL} {K : ByteArray → Int → Hp → Prop} (hu : Dk H d O s) (h : Holds s N m v) (hl : s.left = none) (hK : ∀ H', Le H H' → K (mkB (ldB' v)) (ldE' v) H') : slots_Load.C (some ⟨d, 0, none⟩) H K :=
  slots_Load.h hu h (on_none hl) (fun e H' le => by subst e; exact hK H' le) (fun b e H' le => by subst e; exact hK H' le)
section
variable {Hx Hq : Hp} {d t j N m : Nat} {O : List Nat} {s : DS} {v : Option BL} {w b : BL} {any : Bool} {e : Int} {Iq : ByteArray → Bool → Int → Hp → Prop} {mu : ByteArray → Bool → Int → Hp → Nat} {K : Bool → Hp → Prop}
theorem play_k4 {was' : ByteArray} {any' : Bool} (hu : Dk Hq d O s) (hv : Holds s N m v) (hl : s.left = none) (hj : j ≤ 1000) (hn : ∀ H', Le Hq H' → Iq was' any' ((j : Nat) + 1) H' ∧ mu was' any' ((j : Nat) + 1) H' < mu (mkB w) any (j : Nat) Hx) :
    centolaw20_SlotsPlay.k4 Hx Iq K any (j : Nat) mu (some ⟨d, 0, none⟩) (mkB (ldB' v)) (ldE' v) (mkB w) was' any' Hq := by
  unfold centolaw20_SlotsPlay.k4
  refine slots_Load.both hu hv hl fun H' le => bcd (fun h => absurd rfl h) fun _ => bcd (fun h => absurd rfl h) fun _ => chk (by omega) (hn H' le)
theorem play_k5 {y : Bool} (hu : Dk Hq d O s) (hv : Holds s N m v) (hl : s.left = none) (hj : j ≤ 1000) (ht : rd Hq t 0 = some (.string (mkB b))) (h1 : y = true → v = some b) (h2 : y = false → v = if any then some w else none) (hn : ∀ (was' : BL) (any' : Bool) H', v = (if any' then some was' else none) → Le Hq H' → Iq (mkB was') any' ((j : Nat) + 1) H' ∧ mu (mkB was') any' ((j : Nat) + 1) H' < mu (mkB w) any (j : Nat) Hx) :
    centolaw20_SlotsPlay.k5 Hx Iq K any t (j : Nat) mu (some ⟨d, 0, none⟩) (mkB (ldB' v)) (ldE' v) (mkB w) y Hq := by
  unfold centolaw20_SlotsPlay.k5
  cases y with
  | true => exact bcT (ldS_i ht (play_k4 hu hv hl hj fun H' le => hn b true H' (h1 rfl) le))
  | false =>
    have h2 := h2 rfl
    refine bcF ?_
    cases any with
    | true =>
      subst h2
      refine bcT (bcd (fun h => absurd rfl h) fun _ => bcd (fun h => absurd rfl h) fun _ => ?_)
      exact bcn (fun h => by cases h) fun _ => play_k4 hu hv hl hj fun H' le => hn w true H' rfl le
    | false =>
      subst h2
      refine bcF (bcn (fun _ => bcd (fun h => absurd rfl h) fun _ => ?_) fun h => by cases h)
      exact play_k4 hu hv hl hj fun H' le => hn w false H' rfl le
theorem play_k3 (hu : Dk Hq d O s) (hv : Holds s N m v) (hl : s.left = none) (hj : j ≤ 1000) (ht : rd Hq t 0 = some (.string (mkB b))) (h0 : e = 0 → v = some b) (h23 : e = 23 → v = some b ∨ v = if any then some w else none) (hno : e ≠ 0 → e ≠ 23 → v = if any then some w else none) (hn : ∀ (was' : BL) (any' : Bool) H', v = (if any' then some was' else none) → Le Hq H' → Iq (mkB was') any' ((j : Nat) + 1) H' ∧ mu (mkB was') any' ((j : Nat) + 1) H' < mu (mkB w) any (j : Nat) Hx) :
    centolaw20_SlotsPlay.k3 Hx Iq K any t (j : Nat) mu (some ⟨d, 0, none⟩) e (mkB w) Hq := by
  unfold centolaw20_SlotsPlay.k3
  refine slots_Load.both hu hv hl fun H1 le1 => ?_
  have hu1 := hu.le le1
  have ht1 := le1.rd ht
  have hn1 : ∀ (was' : BL) (any' : Bool) H', v = (if any' then some was' else none) → Le H1 H' → Iq (mkB was') any' ((j : Nat) + 1) H' ∧ mu (mkB was') any' ((j : Nat) + 1) H' < mu (mkB w) any (j : Nat) Hx := fun was' any' H' e le => hn was' any' H' e (le1.trans le)
  refine bcd (fun he => ?_) (fun he => bcd (fun he' => ?_) fun he' => ?_)
  · have h0 := h0 he
    subst h0
    refine bcd (fun h => absurd rfl h) fun _ => ldS_i ht1 (bcd (fun h => absurd rfl h) fun _ => ldS_i ht1 ?_)
    exact play_k4 hu1 hv hl hj fun H' le => hn1 b true H' rfl le
  · refine bcd (fun h => ldS_i ht1 ?_) fun h => ?_
    · refine play_k5 hu1 hv hl hj ht1 (fun hy => ?_) (fun hy => ?_) hn1
      · have hb := decB.1 (of_decide_eq_true hy)
        cases v with
        | none => exact absurd h (by decide)
        | some x => exact congrArg some hb
      · have hb := of_decide_eq_false hy
        rcases h23 he' with hh | hh
        · subst hh; exact absurd rfl hb
        · exact hh
    · refine play_k5 hu1 hv hl hj ht1 (fun hy => by cases hy) (fun _ => ?_) hn1
      rcases h23 he' with hh | hh
      · subst hh; exact absurd rfl h
      · exact hh
  · exact play_k5 hu1 hv hl hj ht1 (fun hy => by cases hy) (fun _ => hno he he') hn1
end
theorem slotsPlay_law {n : Int} {lp : Option Addr} {ll lc : Nat} {l : List (ByteArray × Int × Int)} {H : Hp} (wn : (Lit.int .u8 n).wf = true) (hl0 : stE.rows H lp ll lc l) : centolaw20_SlotsPlay.C n lp ll lc H fun r H' => r = true ∧ Le H H' := by
  apply centolaw20_SlotsPlay.of
  have bn := wf_u8 wn
  obtain ⟨n, rfl⟩ : ∃ k : Nat, n = k := ⟨n.toNat, by omega⟩
  have hl : Sn 3 stC H lp ll lc l := rows_sn (fun h => (stE_rep h).1) hl0
  have hwf : ∀ x ∈ l, (Lit.int .i64 x.2.1).wf = true ∧ (Lit.int .u64 x.2.2).wf = true := fun x hx => by
    obtain ⟨cs, h⟩ := hl0.each x hx
    exact (stE_rep h).2
  have el := hl.len
  refine centolaw20_known.c fun H0 le0 => ?_
  refine bcn (fun h => by cases h) fun _ => bcd (fun _ => ⟨rfl, le0⟩) fun l20 => ⟨by decide, ?_⟩
  rw [show (40 : Int) = ((40 : Nat) : Int) from rfl, ← Int.ofNat_tmod]
  have hm : n % 40 < 40 := Nat.mod_lt _ (by decide)
  generalize n % 40 = k at hm
  refine chk (by omega) (chk (by omega) ?_)
  rw [show ((k : Nat) : Int) + 21 = ((k + 21 : Nat) : Int) by omega]
  generalize hN : k + 21 = N at *
  refine sector_New.c fun H1 d O1 h1 le1 o1 => ?_
  have o1' : ∀ x ∈ O1, H x = none := fun x hx => none_of_le le0 (o1 x hx)
  have v1 : Holds (DS.new (N : Nat)) N 0 none := Holds.new (by omega)
  have f1 : (DS.new (N : Nat)).left = none := rfl
  have n1 : (DS.new (N : Nat)).n = 0 := rfl
  generalize DS.new ((N : Nat) : Int) = s1 at *
  refine ⟨fun was any i H' => ∃ (j m : Nat) (O : List Nat) (s : DS) (w : BL), was = mkB w ∧ i = (j : Nat) ∧ j ≤ ll ∧ Dk H' d O s ∧ Le H H' ∧ (∀ x ∈ O, H x = none) ∧ Holds s N m (if any then some w else none) ∧ s.left = none ∧ s.n ≤ 1000 * j ∧ m ≤ j, fun _ _ i _ => ((ll : Int) - i).toNat,
    ⟨0, 0, O1, s1, [], rfl, rfl, Nat.zero_le _, h1, le0.trans le1, o1', v1, f1, by omega, Nat.le_refl _⟩, ?_⟩
  rintro was any i H3 ⟨j, m, O3, s3, w, rfl, rfl, gj, h3, le3, o3, v3, f3, n3, m3⟩
  refine bcd (fun hj => ?_) (fun hj => ⟨rfl, le3⟩)
  refine sn_nil (hl.le le3) (by omega) hj fun b o hi e => ?_
  simp only [Int.toNat_natCast] at hi e ⊢
  obtain ⟨w2, w4⟩ := hwf _ (List.getElem_mem hi)
  generalize l[j] = x at *
  obtain ⟨xa, xb, xd⟩ := x
  have bw2 : -9223372036854775808 ≤ xb ∧ xb ≤ 9223372036854775807 := wf_i64 w2
  have bw4 : 0 ≤ xd ∧ xd ≤ 18446744073709551615 := by
    simp [Lit.wf, IntKind.min, IntKind.max, IntKind.signed, IntKind.bits] at w4; omega
  obtain ⟨xd, rfl⟩ : ∃ k : Nat, xd = k := ⟨xd.toNat, by omega⟩
  obtain ⟨xa, rfl⟩ : ∃ l, xa = mkB l := ⟨L xa, rfl⟩
  refine ldS_i (e 0 _ rfl) (ldI_i (e 1 _ rfl) (ldI_i (e 2 _ rfl) ?_))
  intro t ht
  refine ST_upd rfl (ST_upd rfl (ST_upd rfl ?_))
  generalize hH4 : upd H3 t _ = H4
  have le4 : Le H3 H4 := by rw [← hH4]; exact Le.upd ht
  have t0 : rd H4 t 0 = some (.string (mkB xa)) := by rw [← hH4, rd_upd_self]; rfl
  have t1 : rd H4 t 1 = some (.int .i64 xb) := by rw [← hH4, rd_upd_self]; rfl
  have t2 : rd H4 t 2 = some (.int .u64 (xd : Nat)) := by rw [← hH4, rd_upd_self]; rfl
  clear hH4
  have le04 := le3.trans le4
  have htO : t ∉ O3 := fun hx => h3.there _ hx ht
  have h4 := h3.le le4
  refine ldS_i t0 (bcd (fun _ => ⟨by trivial, le04⟩) fun l700 => ?_)
  rw [mkB_size] at l700
  -- the save
  have hjl : j < ll := by omega
  have main : ∀ {Hq : Hp} {s : DS} {K : Bool → Hp → Prop} {Iq : ByteArray → Bool → Int → Hp → Prop} {mu : ByteArray → Bool → Int → Hp → Nat}, Dk Hq d O3 s → Le H Hq → Holds s N m (if any then some w else none) → s.n = s3.n → (xb < 0 → s.left = none) → rd Hq t 0 = some (.string (mkB xa)) → rd Hq t 1 = some (.int .i64 xb) → rd Hq t 2 = some (.int .u64 (xd : Nat)) →
      (∀ (was' : BL) (any' : Bool) (m' : Nat) (O' : List Nat) (s' : DS) (H' : Hp), Dk H' d O' s' → Le H H' → (∀ x ∈ O', H x = none) → Holds s' N m' (if any' then some was' else none) → s'.left = none → s'.n ≤ 1000 * (j + 1) → m' ≤ j + 1 → Iq (mkB was') any' ((j : Nat) + 1) H' ∧ mu (mkB was') any' ((j : Nat) + 1) H' < mu (mkB w) any (j : Nat) H3) →
      centolaw20_SlotsPlay.k1 H3 Iq K any t (j : Nat) mu (some ⟨d, 0, none⟩) (mkB w) Hq := by
    intro Hq s K Iq mu hu hA hv hn hleft q0 q1 q2 next
    unfold centolaw20_SlotsPlay.k1
    refine ldS_i q0 ?_
    have hls := hv.len
    have k2 : ∀ {e : Int} {Hr : Hp} {O' : List Nat} {s' : DS}, Dk Hr d O' s' → Le H Hr → (∀ x ∈ O', H x = none) → t ∉ O' → rd Hr t 0 = some (.string (mkB xa)) → rd Hr t 1 = some (.int .i64 xb) → rd Hr t 2 = some (.int .u64 (xd : Nat)) → s'.n ≤ 1000 * (j + 1) →
        (xb < 0 → e ≠ 23 → s'.left = none) → (e = 0 → Holds s' N (m + 1) (some xa)) → (e = 23 → ∀ bits, Holds (s'.crash bits) N (m + 1) (some xa) ∨ Holds (s'.crash bits) N (m + 1) (if any then some w else none)) → (e ≠ 0 → e ≠ 23 → Holds s' N m (if any then some w else none)) →
        centolaw20_SlotsPlay.k2 H3 Iq K any t (j : Nat) mu (some ⟨d, 0, none⟩) e (mkB w) Hr := by
      intro e Hr O' s' hr hAr hOr htO q0 q1 q2 hnr hlr a0 a23 ano
      have crash : sector_Disk_Crash.C (some ⟨d, 0, none⟩) (xd : Nat) Hr fun Hx53 => centolaw20_SlotsPlay.k3 H3 Iq K any t (j : Nat) mu (some ⟨d, 0, none⟩) e (mkB w) Hx53 := by
        refine sector_Disk_Crash.c hr (wn_of hr (by omega)) (by omega) fun H5 O5 h5 m5 g5 => ?_
        have le5 := m5.le hAr hOr
        have o5 := own_grow hAr hOr g5
        have q5 := m5.rd htO q0
        have n5 : (s'.crash xd).n ≤ 1000 * (j + 1) := hnr
        have fin : ∀ v m', Holds (s'.crash xd) N m' v → m' ≤ j + 1 → (e = 0 → v = some xa) → (e = 23 → v = some xa ∨ v = if any then some w else none) → (e ≠ 0 → e ≠ 23 → v = if any then some w else none) → centolaw20_SlotsPlay.k3 H3 Iq K any t (j : Nat) mu (some ⟨d, 0, none⟩) e (mkB w) H5 := by
          intro v m' hv' hm' c0 c23 cno
          exact play_k3 h5 hv' rfl (by omega) q5 c0 c23 cno fun was' any' H' ev le => next was' any' m' O5 _ H' (h5.le le) (le5.trans le) o5 (ev ▸ hv') rfl n5 hm'
        by_cases e0 : e = 0
        · exact fin _ (m + 1) ((a0 e0).crash xd) (by omega) (fun _ => rfl) (fun h => .inl rfl) (fun h => absurd e0 h)
        · by_cases e23 : e = 23
          · rcases a23 e23 xd with hh | hh
            · exact fin _ (m + 1) hh (by omega) (fun _ => rfl) (fun _ => .inl rfl) (fun _ h => absurd e23 h)
            · exact fin _ (m + 1) hh (by omega) (fun h => absurd h e0) (fun _ => .inr rfl) (fun _ _ => rfl)
          · exact fin _ m ((ano e0 e23).crash xd) (by omega) (fun h => absurd h e0) (fun h => absurd h e23) (fun _ _ => rfl)
      unfold centolaw20_SlotsPlay.k2
      refine ldI_i q1 (bcd (fun _ => ldI_i q2 crash) fun hneg => bcd (fun _ => ldI_i q2 crash) fun e23 => ?_)
      have hl' := hlr (by omega) e23
      by_cases e0 : e = 0
      · have hv' := a0 e0
        exact play_k3 hr hv' hl' (by omega) q0 (fun _ => rfl) (fun h => absurd h e23) (fun h => absurd e0 h) fun was' any' H' ev le => next was' any' (m + 1) O' _ H' (hr.le le) (hAr.trans le) hOr (ev ▸ hv') hl' hnr (by omega)
      · have hv' := ano e0 e23
        exact play_k3 hr hv' hl' (by omega) q0 (fun h => absurd h e0) (fun h => absurd h e23) (fun _ _ => rfl) fun was' any' H' ev le => next was' any' m O' _ H' (hr.le le) (hAr.trans le) hOr (ev ▸ hv') hl' hnr (by omega)
    by_cases hfit : xa.length ≤ roomN N
    · refine slots_Save.h hu hA o3 hv (by omega) (by omega) hfit fun e H5 O5 s5 t5 p5 => ?_
      have q0' := t5.md.rd htO q0
      have q1' := t5.md.rd htO q1
      have q2' := t5.md.rd htO q2
      have n5 := p5.n
      have htO5 : t ∉ O5 := not_own (ne_none_of_rd q0) htO t5.gr
      have kk : centolaw20_SlotsPlay.k2 H3 Iq K any t (j : Nat) mu (some ⟨d, 0, none⟩) e (mkB w) H5 :=
        k2 t5.dk t5.le t5.fr htO5 q0' q1' q2' (by omega) (fun hx _ => p5.left (hleft hx)) p5.done (fun h => (p5.torn (by omega)).2.2.2) (fun h0 h23 => absurd (p5.torn h0).1 h23)
      refine bcd (fun h0 => bcd (fun h23 => absurd (p5.torn h0).1 h23) fun _ => kk) fun _ => kk
    · refine slots_Save.full hu (by omega) (by rw [hls]; exact hfit) ?_
      refine bcd (fun _ => bcd (fun _ => bcd (fun h => absurd rfl h) fun _ => ?_) fun h => absurd (by decide) h) fun h => absurd (by decide) h
      refine ldS_i q0 (slots_Room.c hu (by omega) ⟨q0, ?_⟩)
      rw [hls, mkB_size]
      refine bcd (fun h => absurd h (by omega)) fun _ => ?_
      exact k2 hu hA o3 htO q0 q1 q2 (by omega) (fun hx _ => hleft hx) (fun h => absurd h (by decide)) (fun h => absurd h (by decide)) (fun _ _ => hv)
  have next : ∀ (was' : BL) (any' : Bool) (m' : Nat) (O' : List Nat) (s' : DS) (H' : Hp), Dk H' d O' s' → Le H H' → (∀ x ∈ O', H x = none) → Holds s' N m' (if any' then some was' else none) → s'.left = none → s'.n ≤ 1000 * (j + 1) → m' ≤ j + 1 → (∃ (j1 m : Nat) (O : List Nat) (s : DS) (w : BL), mkB was' = mkB w ∧ ((j : Nat) : Int) + 1 = (j1 : Nat) ∧ j1 ≤ ll ∧ Dk H' d O s ∧ Le H H' ∧ (∀ x ∈ O, H x = none) ∧ Holds s N m (if any' then some w else none) ∧ s.left = none ∧ s.n ≤ 1000 * j1 ∧ m ≤ j1) ∧ ((ll : Int) - (((j : Nat) : Int) + 1)).toNat < ((ll : Int) - ((j : Nat) : Int)).toNat :=
    fun was' any' m' O' s' H' a1 a2 a3 a4 a5 a6 a7 => ⟨⟨j + 1, m', O', s', was', rfl, by omega, by omega, a1, a2, a3, a4, a5, a6, a7⟩, by omega⟩
  refine ldI_i t1 (bcd (fun hx => ldI_i t1 (sector_Disk_Limit.c h4 (by omega) fun H5 h5 m5 => ?_)) fun hx => ?_)
  · have hdt : t ∉ [d] := by
      intro hh
      simp only [List.mem_singleton] at hh
      exact htO (hh ▸ h3.hd)
    exact main h5 (m5.le le04 (by simpa using o3 d h3.hd)) (v3.as rfl v3.w) rfl (fun h => absurd hx (by omega)) (m5.rd hdt t0) (m5.rd hdt t1) (m5.rd hdt t2) next
  · exact main h4 le04 v3 rfl (fun _ => f3) t0 t1 t2 next


theorem slotsPlay_own : ownKnob Try.prog.godebug = none := by kernel_rfl
theorem slotsPlay_laid : laidOutB Try.prog = true := by kernel_rfl
set_option maxRecDepth 100000 in
theorem slotsPlay_lifted (os : Os) (started : os.Started) (H : Type) (enc : TypeId × Value → H) :
    ReturnsInHanded {} Try.checked os 11 .any (Rows.slotsPlaySpec.pre6 enc Try.prog Try.f11 Rows.slotsPlayRow.domain false) (Rows.slotsPlaySpec.post enc Try.prog Try.f11 false true false false) := by
  refine returnsInHanded_of_change (C := Try.checked) slotsPlay_own started (by kernel_rfl) Try.func11
    (ChangeSpec.witness6 (enc := enc) (C := Try.checked) false ⟨#[], #[.int .u8 0, .slice Option.none 0 0], []⟩ 8 (by kernel_rfl) (by kernel_rfl) (by kernel_rfl) (by kernel_rfl)) ?_
  intro W base args ds gs before hval0 hW hcnd _
  have hval : ∀ (j : Nat) t v, Try.f11.params[j]? = some t → args[j]? = some v → Value.okWide Try.prog W .any base t v := hval0
  have hW' := hW
  obtain ⟨p, q, hA0, hV, rfl, hfz, hnd⟩ := hW
  have hA : DataW.TrodAll enc Try.prog W 0 (fun _ => true) true Try.f11.params.toList args.toList ds p := hA0
  rw [Try.params11] at hA hval
  obtain ⟨v0, v1, d0, d1, p0, p1, rfl, rfl, rfl, h0, h1⟩ := trodAll_two hA
  obtain ⟨x0, rfl, rfl, rfl, w0⟩ := open_int Try.underlying5 (hval 0 5 v0 rfl rfl) h0
  obtain ⟨q1, l1, c1, x1, rfl, s1⟩ := openSl (by decide) Try.underlying65 (opens_st Try.underlying67 (by kernel_rfl) (opensF_cons rfl (opens_str Try.underlying9 (by kernel_rfl)) rfl (opensF_cons rfl (opens_int Try.underlying3 (by kernel_rfl)) rfl (opensF_one rfl (opens_int Try.underlying33 (by kernel_rfl)))))) (hval 1 65 v1 rfl rfl) h1 (fun x hx => by simp [hx]) hfz
  refine (calls_true (slotsPlay_law w0 s1) Try.func11 (by kernel_rfl)).mono fun e W' ⟨he, hk⟩ => ?_
  subst he
  exact ⟨_, rfl, post_true slotsPlay_laid hW' (by kernel_rfl) rfl rfl rfl Try.underlying4 hk⟩

theorem slotsPlay_holds : Rows.SlotsPlaySaid :=
  OpenClaim.holds_of_wide 11 Try.f11 rfl rfl rfl rfl rfl rfl rfl ⟨rfl, rfl, rfl, rfl, rfl⟩ rfl rfl rfl rfl rfl (by kernel_rfl) Try.func11 (by kernel_rfl)
    (of_decide_eq_true (by kernel_rfl)) (by unfold Func.isWrapper; first | (rw [if_pos (by decide +kernel)]; kernel_rfl) | (rw [if_neg (by decide +kernel)]; exact ⟨rfl, rfl⟩))
    (fun os started H enc _ => slotsPlay_lifted os started H enc)

end Go.Proofs.Ytjfohhgmapipnaa
