/- For every input DiskPlays returns true, and what came in reads as it did: no condition. -/
import Derived.Test.YtjfohhgmapipnaaT10
import Derived.Test.YtjfohhgmapipnaaVcLift
import Derived.Test.YtjfohhgmapipnaaVcOpen
import Derived.Test.YtjfohhgmapipnaaRows
namespace Go.Proofs.Ytjfohhgmapipnaa
open Go.V
open Go.ChangeShapes Go.WideShapes Go.ChangeAt Go.RowKit
theorem rows_sn {α : Type} {E : Enc α} {f : α → List Value} (hf : ∀ {H cs x}, E.rep H cs x → cs = f x) {H : Hp} {p : Option Addr} {l k : Nat} {xs : List α} (h : E.rows H p l k xs) : Sn E.n f H p l k xs := by
  refine ⟨h.1, h.2.1, ?_⟩
  by_cases hn : xs = []
  · exact .inl hn
  · right
    have hpos : 0 < xs.length := List.length_pos_iff.2 hn
    obtain ⟨b, o, hp⟩ := h.2.2.2.1 (by have := h.1; have := h.2.1; omega)
    refine ⟨b, o, hp, fun i hi j v e => ?_⟩
    obtain ⟨cs, h2, h5⟩ := h.2.2.2.2 b o hp i hi
    refine h5 j v ?_
    rw [hf h2]
    exact e
/-- A step's cells. -/
def stC (x : Int × Int × ByteArray × Int) : List Value := [.int .i64 x.1, .int .i64 x.2.1, .string x.2.2.1, .int .u64 x.2.2.2]
abbrev stE : Enc (Int × Int × ByteArray × Int) := (Enc.int .i64).pair ((Enc.int .i64).pair (Enc.str.pair (Enc.int .u64)))
theorem stE_rep {H : Hp} {cs : List Value} {x : Int × Int × ByteArray × Int} (h : stE.rep H cs x) : cs = stC x ∧ (Lit.int .i64 x.2.1).wf = true ∧ (Lit.int .u64 x.2.2.2).wf = true := by
  obtain ⟨c1, c2, rfl, ⟨rfl, _⟩, c3, c4, rfl, ⟨rfl, w2⟩, c5, c6, rfl, ⟨rfl, _⟩, ⟨rfl, w4⟩⟩ := h
  exact ⟨rfl, w2, w4⟩
theorem dis_grow {H : Hp} {O O' P : List Nat} (hd : ∀ x ∈ O, x ∉ P) (ht : ∀ x ∈ P, H x ≠ none) (hg : Grew H O O') : ∀ x ∈ O', x ∉ P := fun x hx hx' => by
  rcases hg x hx with h | h
  · exact hd x h hx'
  · exact ht x hx' h
theorem dis_symm {O P : List Nat} (hd : ∀ x ∈ O, x ∉ P) : ∀ x ∈ P, x ∉ O := fun x hx hx' => hd x hx' hx
theorem DS.write_wn (s : DS) (i : Int) (b : BL) (h : s.w.length ≤ s.n) : (s.write i b).w.length ≤ (s.write i b).n := by
  unfold DS.write
  split
  · split
    · show (s.w ++ _).length ≤ s.n + 1
      rw [List.length_append]; simp; omega
    · show s.w.length ≤ s.n + 1; omega
  · exact h
theorem diskPlays_law {n : Int} {lp : Option Addr} {ll lc : Nat} {l : List (Int × Int × ByteArray × Int)} {H : Hp} (_ : (Lit.int .i64 n).wf = true) (hl0 : stE.rows H lp ll lc l) : centolaw19_DiskPlays.C n lp ll lc H fun r H' => r = true ∧ Le H H' := by
  apply centolaw19_DiskPlays.of
  have hl : Sn 4 stC H lp ll lc l := rows_sn (fun h => (stE_rep h).1) hl0
  have hwf : ∀ x ∈ l, (Lit.int .i64 x.2.1).wf = true ∧ (Lit.int .u64 x.2.2.2).wf = true := fun x hx => by
    obtain ⟨cs, h⟩ := hl0.each x hx
    exact (stE_rep h).2
  have el := hl.len
  refine centolaw19_known.c fun H0 le0 => ?_
  refine bcn (fun h => by cases h) fun _ => bcd (fun _ => ⟨rfl, le0⟩) fun l60 => ?_
  have main : centolaw19_DiskPlays.k1 (fun r H' => r = true ∧ Le H H') ll lp n H0 := by
    unfold centolaw19_DiskPlays.k1
    refine sector_New.c fun H1 d O1 h1 le1 o1 => centoref19_New.c fun H2 r P1 h2 le2 p1 => ?_
    have le01 := le0.trans le1
    have o1' : ∀ x ∈ O1, H x = none := fun x hx => none_of_le le0 (o1 x hx)
    have p1' : ∀ x ∈ P1, H x = none := fun x hx => none_of_le le01 (p1 x hx)
    have hlen : (DS.new n).l.length ≤ 1000 := by unfold DS.new; rw [List.length_replicate]; omega
    refine ⟨fun i H' => ∃ (j : Nat) (O P : List Nat) (s : DS), i = (j : Nat) ∧ j ≤ ll ∧ Dk H' d O s ∧ Rk H' r P s ∧ (∀ x ∈ O, x ∉ P) ∧ Le H H' ∧ (∀ x ∈ O, H x = none) ∧ (∀ x ∈ P, H x = none) ∧ s.n ≤ j ∧ s.l.length ≤ 1000, fun i _ => ((ll : Int) - i).toNat,
      ⟨0, O1, P1, _, rfl, Nat.zero_le _, h1.le le2, h2, fun x hx hx' => h1.there x hx (p1 x hx'), le01.trans le2, o1', p1', Nat.le_refl _, hlen⟩, ?_⟩
    rintro i H3 ⟨j, O, P, s, rfl, g1, h3, q3, hd, le3, o3, p3, hn, hsl⟩
    have hw := h3.wn
    refine bcd (fun hj => ?_) (fun hj => ⟨rfl, le3⟩)
    refine sn_nil (hl.le le3) (by omega) hj fun b o hi e => ?_
    simp only [Int.toNat_natCast] at hi e ⊢
    obtain ⟨w2, w4⟩ := hwf _ (List.getElem_mem hi)
    generalize l[j] = x at *
    obtain ⟨xa, xb, xc, xd⟩ := x
    have bw2 : -9223372036854775808 ≤ xb ∧ xb ≤ 9223372036854775807 := wf_i64 w2
    have bw4 : 0 ≤ xd ∧ xd ≤ 18446744073709551615 := by
      simp [Lit.wf, IntKind.min, IntKind.max, IntKind.signed, IntKind.bits] at w4; omega
    obtain ⟨xd, rfl⟩ : ∃ k : Nat, xd = k := ⟨xd.toNat, by omega⟩
    refine ldI_i (e 0 _ rfl) (ldI_i (e 1 _ rfl) (ldS_i (e 2 _ rfl) (ldI_i (e 3 _ rfl) ?_)))
    intro t ht
    refine ST_upd rfl (ST_upd rfl (ST_upd rfl (ST_upd rfl ?_)))
    generalize hH4 : upd H3 t _ = H4
    have le4 : Le H3 H4 := by rw [← hH4]; exact Le.upd ht
    have t0 : rd H4 t 0 = some (.int .i64 xa) := by rw [← hH4, rd_upd_self]; rfl
    have t1 : rd H4 t 1 = some (.int .i64 xb) := by rw [← hH4, rd_upd_self]; rfl
    have t2 : rd H4 t 2 = some (.string xc) := by rw [← hH4, rd_upd_self]; rfl
    have t3 : rd H4 t 3 = some (.int .u64 (xd : Nat)) := by rw [← hH4, rd_upd_self]; rfl
    clear hH4
    have le04 := le3.trans le4
    refine ldS_i t2 (bcd (fun _ => ⟨by trivial, le04⟩) fun l100 => ?_)
    have h4 := h3.le le4
    have q4 := q3.le le4
    refine sector_Disk_Copy.c h4 (by omega) (by omega) fun H5 e5 Q5 c5 le5 n5 => ?_
    have h5 := h4.le le5
    have q5 := q4.le le5
    have le05 := le04.trans le5
    have c5' : ∀ x ∈ Q5, H x = none := fun x hx => none_of_le le04 (n5 x hx)
    have dOQ : ∀ x ∈ O, x ∉ Q5 := fun x hx hx' => h4.there x hx (n5 x hx')
    have dPQ : ∀ x ∈ P, x ∉ Q5 := fun x hx hx' => q4.there x hx (n5 x hx')
    have tO : t ∉ O := fun hx => h3.there t hx ht
    have tP : t ∉ P := fun hx => q3.there t hx ht
    have tQ : t ∉ Q5 := fun hx => ne_none_of_rd t0 (n5 t hx)
    replace t0 := le5.rd t0
    replace t1 := le5.rd t1
    replace t2 := le5.rd t2
    replace t3 := le5.rd t3
    -- behind the step
    have tail : ∀ {H6 : Hp} {O6 P6 : List Nat} {s6 : DS} {e f : Int}, Dk H6 d O6 s6 → Rk H6 r P6 s6 → Dk H6 e5 Q5 s → (∀ x ∈ O6, x ∉ P6) → (∀ x ∈ O6, x ∉ Q5) → (∀ x ∈ P6, x ∉ Q5) → Le H H6 → (∀ x ∈ O6, H x = none) → (∀ x ∈ P6, H x = none) → s6.n ≤ j + 1 → s6.l.length ≤ 1000 → e = f → j < ll →
        centolaw19_DiskPlays.k2 H3 (fun i H' => ∃ (j : Nat) (O P : List Nat) (s : DS), i = (j : Nat) ∧ j ≤ ll ∧ Dk H' d O s ∧ Rk H' r P s ∧ (∀ x ∈ O, x ∉ P) ∧ Le H H' ∧ (∀ x ∈ O, H x = none) ∧ (∀ x ∈ P, H x = none) ∧ s.n ≤ j ∧ s.l.length ≤ 1000) (fun r H' => r = true ∧ Le H H') ((j : Nat) : Int) (fun i _ => ((ll : Int) - i).toNat) (some ⟨d, 0, none⟩) (some ⟨r, 0, none⟩) (some ⟨e5, 0, none⟩) e f H6 := fun {H6 O6 P6 s6 e f} h6 q6 c6 d1 d2 d3 le6 o6 p6 n6 l6 hef hjl => by
      subst hef
      unfold centolaw19_DiskPlays.k2
      refine sector_Disk_Write.c (b := [99, 111, 112, 121]) c6 (by omega) fun H7 Q7 c7 m7 g7 => ?_
      have h7 := h6.mod m7 d2
      have q7 := q6.mod m7 d3
      have le7 := m7.le le6 c5'
      have cw := DS.write_n s 0 [99, 111, 112, 121]
      refine sector_Disk_Flush.c c7 (by rw [cw]; split <;> omega) fun H8 Q8 c8 m8 g8 => ?_
      have dis7 := dis_grow (dis_symm d2) h6.there g7
      have dis7' := dis_grow (dis_symm d3) q6.there g7
      have h8 := h7.mod m8 (dis_symm dis7)
      have q8 := q7.mod m8 (dis_symm dis7')
      have le8 := m8.le le7 (own_grow le6 c5' g7)
      refine bcd (fun h => absurd rfl h) fun _ => ?_
      have hq8 := q8
      obtain ⟨kp, k, ap, k1, wp, k2, lim, on, _, rb⟩ := hq8
      refine nil (ldI_i rb.r3 (sector_Disk_Steps.c h8 ⟨rb.r3, bcd (fun h => absurd rfl h) fun _ => nil (ldL_i rb.r0 (sector_Disk_Len.c h8 ⟨rb.r0, bcd (fun h => absurd rfl h) fun _ => ?_⟩))⟩))
      unfold centolaw19_DiskPlays.k3
      refine ⟨fun k H' => -1 ≤ k ∧ k ≤ 41 ∧ Le H8 H', fun k _ => (41 - k).toNat, ⟨by omega, by omega, Le.refl _⟩, ?_⟩
      rintro k H9 ⟨k0, k41, le9⟩
      have h9 := h8.le le9
      have q9 := q8.le le9
      have hw6 := h8.wn
      refine sector_Disk_Len.c h9 (bcd (fun hk => ?_) (fun _ => chk (by omega) ⟨⟨j + 1, O6, P6, s6, by omega, by omega, h9, q9, d1, le8.trans le9, o6, p6, n6, l6⟩, by first | omega | (dsimp only; omega)⟩))
      refine sector_Disk_Read.c h9 (by omega) fun H10 le10 => ?_
      refine centoref19_Disk_Read.c (q9.le le10) (by omega) ?_
      exact bcd (fun h => absurd rfl h) fun _ => bcd (fun h => absurd rfl h) fun _ => chk (by omega) ⟨⟨by omega, by omega, le9.trans le10⟩, by first | omega | (dsimp only; omega)⟩
    have hjl : j < ll := by omega
    refine ldI_i t0 (bcd (fun g => ?_) (fun _ => ldI_i t0 (bcd (fun g => ?_) (fun _ => ldI_i t0 (bcd (fun g => ?_) (fun g => ?_))))))
    · refine ldI_i t1 (ldS_i t2 (ldI_i t1 (ldS_i t2 ?_)))
      rw [← mk_L xc]
      refine sector_Disk_Write.c h5 (by omega) fun H6 O6 h6 m6 g6 => ⟨by rw [mk_L]; exact m6.rd tO t2, m6.rd tO t1, ?_⟩
      have q6 := q5.mod m6 (dis_symm hd)
      have c6 := c5.mod m6 (dis_symm dOQ)
      have le6 := m6.le le05 o3
      refine centoref19_Disk_Write.c q6 (by omega) fun H7 P7 q7 m7 g7 => ?_
      have dis6 := dis_grow hd q5.there g6
      have dis6' := dis_grow dOQ c5.there g6
      have h7 := h6.mod m7 dis6
      have c7 := c6.mod m7 (dis_symm dPQ)
      have hsn := DS.write_n s xb (L xc)
      exact tail h7 q7 c7 (dis_symm (dis_grow (dis_symm dis6) h6.there g7)) dis6' (dis_grow dPQ c6.there g7) (m7.le le6 p3) (own_grow le05 o3 g6) (own_grow le6 p3 g7) (by rw [hsn]; split <;> omega) (by rw [DS.write_len]; exact hsl) rfl hjl
    · refine sector_Disk_Flush.c h5 (by omega) fun H6 O6 h6 m6 g6 => ?_
      have q6 := q5.mod m6 (dis_symm hd)
      have c6 := c5.mod m6 (dis_symm dOQ)
      have le6 := m6.le le05 o3
      refine centoref19_Disk_Flush.c q6 (by omega) fun H7 P7 q7 m7 g7 => ?_
      have dis6 := dis_grow hd q5.there g6
      have dis6' := dis_grow dOQ c5.there g6
      have h7 := h6.mod m7 dis6
      have c7 := c6.mod m7 (dis_symm dPQ)
      have hsn := DS.flush_n s
      exact tail h7 q7 c7 (dis_symm (dis_grow (dis_symm dis6) h6.there g7)) dis6' (dis_grow dPQ c6.there g7) (m7.le le6 p3) (own_grow le05 o3 g6) (own_grow le6 p3 g7) (by rw [hsn]; split <;> omega) (by rw [DS.flush_len]; exact hsl) rfl hjl
    · refine ldI_i t1 (sector_Disk_Limit.c h5 (by omega) fun H6 h6 m6 => ?_)
      have m6' : Mod O H5 H6 := m6.mono (by simpa using h5.hd)
      have q6 := q5.mod m6' (dis_symm hd)
      have c6 := c5.mod m6' (dis_symm dOQ)
      have le6 := m6'.le le05 o3
      refine ldI_i (m6'.rd tO t1) (centoref19_Disk_Limit.c q6 bw2 fun H7 q7 m7 => ?_)
      have m7' : Mod P H6 H7 := m7.mono (by simpa using q6.hr)
      exact tail (h6.mod m7' hd) q7 (c6.mod m7' (dis_symm dPQ)) hd dOQ dPQ (m7'.le le6 p3) o3 p3 (by show s.n ≤ j + 1; omega) hsl rfl hjl
    · refine ldI_i t3 (sector_Disk_Crash.c h5 (by omega) (by omega) fun H6 O6 h6 m6 g6 => ?_)
      have q6 := q5.mod m6 (dis_symm hd)
      have c6 := c5.mod m6 (dis_symm dOQ)
      have le6 := m6.le le05 o3
      refine ldI_i (m6.rd tO t3) (centoref19_Disk_Crash.c q6 (by omega) (by omega) fun H7 P7 q7 m7 g7 => ?_)
      have dis6 := dis_grow hd q5.there g6
      have dis6' := dis_grow dOQ c5.there g6
      have h7 := h6.mod m7 dis6
      have c7 := c6.mod m7 (dis_symm dPQ)
      exact tail h7 q7 c7 (dis_symm (dis_grow (dis_symm dis6) h6.there g7)) dis6' (dis_grow dPQ c6.there g7) (m7.le le6 p3) (own_grow le05 o3 g6) (own_grow le6 p3 g7) (by show s.n ≤ j + 1; omega) (by rw [DS.crash_len]; exact hsl) rfl hjl
  exact bcd (fun _ => bcd (fun _ => ⟨rfl, le0⟩) fun _ => main) fun _ => main

theorem diskPlays_own : ownKnob Try.prog.godebug = none := by kernel_rfl
theorem diskPlays_laid : laidOutB Try.prog = true := by kernel_rfl
set_option maxRecDepth 100000 in
theorem diskPlays_lifted (os : Os) (started : os.Started) (H : Type) (enc : TypeId × Value → H) :
    ReturnsInHanded {} Try.checked os 9 .any (Rows.diskPlaysSpec.pre6 enc Try.prog Try.f9 Rows.diskPlaysRow.domain false) (Rows.diskPlaysSpec.post enc Try.prog Try.f9 false true false false) := by
  refine returnsInHanded_of_change (C := Try.checked) diskPlays_own started (by kernel_rfl) Try.func9
    (ChangeSpec.witness6 (enc := enc) (C := Try.checked) false ⟨#[], #[.int .i64 0, .slice Option.none 0 0], []⟩ 8 (by kernel_rfl) (by kernel_rfl) (by kernel_rfl) (by kernel_rfl)) ?_
  intro W base args ds gs before hval0 hW hcnd _
  have hval : ∀ (j : Nat) t v, Try.f9.params[j]? = some t → args[j]? = some v → Value.okWide Try.prog W .any base t v := hval0
  have hW' := hW
  obtain ⟨p, q, hA0, hV, rfl, hfz, hnd⟩ := hW
  have hA : DataW.TrodAll enc Try.prog W 0 (fun _ => true) true Try.f9.params.toList args.toList ds p := hA0
  rw [Try.params9] at hA hval
  obtain ⟨v0, v1, d0, d1, p0, p1, rfl, rfl, rfl, h0, h1⟩ := trodAll_two hA
  obtain ⟨x0, rfl, rfl, rfl, w0⟩ := open_int Try.underlying3 (hval 0 3 v0 rfl rfl) h0
  obtain ⟨q1, l1, c1, x1, rfl, s1⟩ := openSl (by decide) Try.underlying47 (opens_st Try.underlying51 (by kernel_rfl) (opensF_cons rfl (opens_int Try.underlying3 (by kernel_rfl)) rfl (opensF_cons rfl (opens_int Try.underlying3 (by kernel_rfl)) rfl (opensF_cons rfl (opens_str Try.underlying9 (by kernel_rfl)) rfl (opensF_one rfl (opens_int Try.underlying33 (by kernel_rfl))))))) (hval 1 47 v1 rfl rfl) h1 (fun x hx => by simp [hx]) hfz
  refine (calls_true (diskPlays_law w0 s1) Try.func9 (by kernel_rfl)).mono fun e W' ⟨he, hk⟩ => ?_
  subst he
  exact ⟨_, rfl, post_true diskPlays_laid hW' (by kernel_rfl) rfl rfl rfl Try.underlying4 hk⟩

theorem diskPlays_holds : Rows.DiskPlaysSaid :=
  OpenClaim.holds_of_wide 9 Try.f9 rfl rfl rfl rfl rfl rfl rfl ⟨rfl, rfl, rfl, rfl, rfl⟩ rfl rfl rfl rfl rfl (by kernel_rfl) Try.func9 (by kernel_rfl)
    (of_decide_eq_true (by kernel_rfl)) (by unfold Func.isWrapper; first | (rw [if_pos (by decide +kernel)]; kernel_rfl) | (rw [if_neg (by decide +kernel)]; exact ⟨rfl, rfl⟩))
    (fun os started H enc _ => diskPlays_lifted os started H enc)

end Go.Proofs.Ytjfohhgmapipnaa
