/- Contracts and plain laws, put together: Sa, Jc, Jd, Sb, TopA, TopB, TopC, TopD, TopF. -/
import Derived.Test.YtebkeocpojlepaaGreatDoorG11
import Derived.Test.YtebkeocpojlepaaGreatDoorG24
import Derived.Test.YtebkeocpojlepaaGreatDoorG23
import Derived.Test.YtebkeocpojlepaaGreatDoorG21
import Derived.Test.YtebkeocpojlepaaGreatDoorG10
import Derived.Test.YtebkeocpojlepaaGreatDoorG04
import Derived.Test.YtebkeocpojlepaaGreatDoorG20
/- Plain laws: legal states: packed and unpacked; what a command and a verdict make of them. -/
namespace Go.Proofs.YtebkeocpojlepaaGreatDoor
set_option linter.unusedVariables false
set_option linter.unusedSimpArgs false

theorem legal_iff (s : St) : legalB s = true ↔ (0 ≤ s.mode ∧ s.mode ≤ 5) ∧ (0 ≤ s.iso ∧ s.iso ≤ 15) ∧ (-737280 ≤ s.lat ∧ s.lat ≤ 737280) ∧ (-1474560 ≤ s.lon ∧ s.lon ≤ 1474560) ∧ (s.home = true ∨ s.lat = 0 ∧ s.lon = 0) := by
  unfold legalB; simp [and_assoc]
theorem legal_ok {s : St} (h : legalB s = true) : s.ok := by
  obtain ⟨h1, h2, h3, h4, _⟩ := (legal_iff s).1 h
  exact ⟨i64wf _ (by omega) (by omega), i64wf _ (by omega) (by omega), i64wf _ (by omega) (by omega), i64wf _ (by omega) (by omega)⟩
theorem legal_iso {s : St} (h : legalB s = true) : 0 ≤ s.iso ∧ s.iso < 16 := by
  obtain ⟨h1, h2, h3, h4, _⟩ := (legal_iff s).1 h
  omega
theorem legal_st0 : legalB st0 = true := by decide

theorem pack_eq {s : St} (h : legalB s = true) : packN s = ((fstN s * 256 + s.iso.toNat) * 16777216 + lowN s.lat) * 16777216 + lowN s.lon ∧ fstN s < 32 ∧ s.iso.toNat < 16 ∧ lowN s.lat < 16777216 ∧ lowN s.lon < 16777216 := by
  obtain ⟨h1, h2, h3, h4, _⟩ := (legal_iff s).1 h
  have hf : fstN s < 32 := by unfold fstN; split <;> split <;> omega
  have la : lowN s.lat < 16777216 := by unfold lowN; omega
  have lo : lowN s.lon < 16777216 := by unfold lowN; omega
  refine ⟨?_, hf, by omega, la, lo⟩
  unfold packN
  rw [if_pos h]
  show (((0 * 2 ^ 8 + (((fstN s : Nat) : Int) % ((2 ^ 8 : Nat) : Int)).toNat) * 2 ^ 8 + (s.iso % ((2 ^ 8 : Nat) : Int)).toNat) * 2 ^ 24 + (s.lat % ((2 ^ 24 : Nat) : Int)).toNat) * 2 ^ 24 + (s.lon % ((2 ^ 24 : Nat) : Int)).toNat = _
  unfold lowN
  generalize fstN s = F at *
  rw [show (2 : Nat) ^ 8 = 256 from rfl, show (2 : Nat) ^ 24 = 16777216 from rfl]
  omega
theorem pack_lt {s : St} (h : legalB s = true) : packN s < 18446744073709551616 := by
  obtain ⟨e, h1, h2, h3, h4⟩ := pack_eq h
  rw [e]; omega
theorem fst_bits {s : St} (h : legalB s = true) : ((fstN s % 8 : Nat) : Int) = s.mode ∧ decide (fstN s / 8 % 2 = 1) = s.armed ∧ decide (fstN s / 16 % 2 = 1) = s.home := by
  obtain ⟨h1, _⟩ := (legal_iff s).1 h
  unfold fstN
  cases s.armed <;> cases s.home <;> simp <;> omega
theorem signed_low {i : Int} (h1 : -8388608 ≤ i) (h2 : i < 8388608) (n : Nat) (hn : n % 16777216 = lowN i) : signed3 n = i := by
  rw [signed3_eq, hn]; unfold lowN
  split <;> omega
theorem unpack_pack {s : St} (h : legalB s = true) : unpS (packN s) = s := by
  obtain ⟨e, h1, h2, h3, h4⟩ := pack_eq h
  obtain ⟨g1, g2, g3, g4, _⟩ := (legal_iff s).1 h
  obtain ⟨b1, b2, b3⟩ := fst_bits h
  have e1 : packN s / 72057594037927936 = fstN s := by rw [e]; omega
  have e2 : packN s / 281474976710656 % 256 = s.iso.toNat := by rw [e]; omega
  have e3 : packN s / 16777216 % 16777216 = lowN s.lat := by rw [e]; omega
  have e4 : packN s % 16777216 = lowN s.lon := by rw [e]; omega
  have hR : unpR (packN s) = s := by
    unfold unpR
    rw [e1, e2, b1, b2, b3, signed_low (i := s.lat) (by omega) (by omega) _ e3, signed_low (i := s.lon) (by omega) (by omega) _ e4, show ((s.iso.toNat : Nat) : Int) = s.iso by omega]
  unfold unpS
  have hB : unpB (packN s) = true := by unfold unpB; rw [hR, h, e1]; simp; omega
  rw [if_pos hB, hR]

theorem fix_le {m : Int} {x L : Nat} (h : LimF m L) (hE : fixE x L = 0) : -(m * 8192) ≤ fixV x L ∧ fixV x L ≤ m * 8192 := by
  have hx : ¬ L < rungF x := by
    intro hc
    unfold fixE at hE
    split at hE
    · cases hE
    · cases hE
  have hr := rnd_le h hx
  have hm : m = 90 ∨ m = 180 := (lim_lt h).2.2.2.2
  unfold fixV
  rw [if_neg hx]
  unfold fixN sg
  generalize rndF (valF (rungF x) * 8192) = r at *
  rcases hm with rfl | rfl
  · rw [show ((90 : Int).toNat) = 90 from rfl] at hr
    split <;> omega
  · rw [show ((180 : Int).toNat) = 180 from rfl] at hr
    split <;> omega
theorem bit_rng (n : Int) : bitI n = 1 ∨ bitI n = 2 ∨ bitI n = 4 ∨ bitI n = 8 := by
  unfold bitI
  by_cases h0 : n = 0
  · rw [if_pos h0]; exact .inl rfl
  · rw [if_neg h0]
    by_cases h1 : n = 1
    · rw [if_pos h1]; exact .inr (.inl rfl)
    · rw [if_neg h1]
      by_cases h2 : n = 2
      · rw [if_pos h2]; exact .inr (.inr (.inl rfl))
      · rw [if_neg h2]; exact .inr (.inr (.inr rfl))
theorem set_rng {i n : Int} (h1 : 0 ≤ i) (h2 : i ≤ 15) : 0 ≤ setI i n ∧ setI i n ≤ 15 := by
  unfold setI hasI
  rcases bit_rng n with e | e | e | e <;> rw [e] <;> (split <;> rename_i hb <;> simp at hb <;> omega)
theorem off_rng {i n : Int} (h1 : 0 ≤ i) (h2 : i ≤ 15) : 0 ≤ offI i n ∧ offI i n ≤ 15 := by
  unfold offI hasI
  rcases bit_rng n with e | e | e | e <;> rw [e] <;> (split <;> rename_i hb <;> simp at hb <;> omega)

theorem delta_legal {s : St} (h : legalB s = true) (c : Cm) : legalB (deltaS s c) = true := by
  obtain ⟨h1, h2, h3, h4, h5⟩ := (legal_iff s).1 h
  unfold deltaS
  split
  · rename_i hE
    unfold deltaE at hE
    unfold deltaK
    rw [legal_iff]
    split
    · rename_i k; rw [if_pos k] at hE
      refine ⟨?_, h2, h3, h4, h5⟩
      unfold goesE at hE
      split at hE
      · cases hE
      · rename_i hw
        show 0 ≤ c.n ∧ c.n ≤ 5
        unfold wayB modeB at hw
        simp at hw
        omega
    · rename_i k; rw [if_neg k] at hE
      split
      · exact ⟨show (0 : Int) ≤ 1 ∧ (1 : Int) ≤ 5 by decide, h2, h3, h4, h5⟩
      · rename_i k; rw [if_neg k] at hE
        split
        · exact ⟨show (0 : Int) ≤ 0 ∧ (0 : Int) ≤ 5 by decide, h2, h3, h4, h5⟩
        · rename_i k; rw [if_neg k] at hE
          split
          · rename_i k; rw [if_pos k] at hE
            have e1 : fixE c.lat L90 = 0 := by
              by_cases e : fixE c.lat L90 = 0
              · exact e
              · rw [if_pos e] at hE; exact hE
            rw [if_neg (by simp [e1])] at hE
            have f1 := fix_le limA e1
            have f2 := fix_le limB hE
            refine ⟨h1, h2, ?_, ?_, .inl rfl⟩
            · show -737280 ≤ fixV c.lat L90 ∧ fixV c.lat L90 ≤ 737280
              omega
            · show -1474560 ≤ fixV c.lon L180 ∧ fixV c.lon L180 ≤ 1474560
              omega
          · rename_i k; rw [if_neg k] at hE
            split
            · exact ⟨h1, set_rng h2.1 h2.2, h3, h4, h5⟩
            · split
              · exact ⟨h1, off_rng h2.1 h2.2, h3, h4, h5⟩
              · exact ⟨h1, h2, h3, h4, h5⟩
  · exact h

theorem safe_rng {s : St} (h : legalB s = true) : 0 ≤ safeI s ∧ safeI s ≤ 5 ∧ flyB (safeI s) = true := by
  obtain ⟨h1, _⟩ := (legal_iff s).1 h
  unfold safeI safeV
  split
  · rename_i hf; exact ⟨h1.1, h1.2, hf.1⟩
  · split
    · exact ⟨by decide, by decide, by decide⟩
    · exact ⟨by decide, by decide, by decide⟩
theorem resolve_legal {s : St} (h : legalB s = true) (v : Int) : legalB (resolveS s v) = true := by
  obtain ⟨h1, h2, h3, h4, h5⟩ := (legal_iff s).1 h
  unfold resolveS
  split
  · obtain ⟨a, b, _⟩ := safe_rng h
    exact (legal_iff _).2 ⟨⟨a, b⟩, h2, h3, h4, h5⟩
  · split
    · exact (legal_iff _).2 ⟨show (0 : Int) ≤ 0 ∧ (0 : Int) ≤ 5 by decide, h2, h3, h4, h5⟩
    · exact h
theorem resolve_fits {s : St} (ha : s.armed = true) (hf : fitsB s = true) : resolveS s 2 = s := by
  unfold fitsB fitsV at hf
  simp at hf
  obtain ⟨⟨f1, f2⟩, f3⟩ := hf
  have : safeI s = s.mode := by
    unfold safeI safeV
    rw [if_pos]
    exact ⟨by rw [← f1, ha], f3, f2⟩
  unfold resolveS
  rw [if_pos rfl, this, ← ha]
theorem resolve_ground (s : St) : resolveS (resolveS s 1) 1 = resolveS s 1 := rfl
end Go.Proofs.YtebkeocpojlepaaGreatDoor

/- Plain laws: ops on one bank of a flash, one behind the other, cut anywhere. -/
namespace Go.Proofs.YtebkeocpojlepaaGreatDoor
set_option linter.unusedVariables false
set_option linter.unusedSimpArgs false

/-- the flash f, its bank c turned to t and erased v times -/
def fl (f : Fl) (c : Int) (t : ByteArray) (v : Int) : Fl := (f.put c t).wear c v
theorem fl_bank (f : Fl) (c : Int) (t : ByteArray) (v : Int) : (fl f c t v).bank c = t := by unfold fl Fl.wear Fl.put Fl.bank; split <;> rfl
theorem fl_other (f : Fl) (c : Int) (hc : c = 0 ∨ c = 1) (t : ByteArray) (v : Int) : (fl f c t v).bank (1 - c) = f.bank (1 - c) := by rcases hc with rfl | rfl <;> rfl
theorem fl_worn (f : Fl) (c : Int) (t : ByteArray) (v : Int) : (fl f c t v).worn c = v := by unfold fl Fl.wear Fl.put Fl.worn; split <;> rfl
theorem fl_oworn (f : Fl) (c : Int) (hc : c = 0 ∨ c = 1) (t : ByteArray) (v : Int) : (fl f c t v).worn (1 - c) = f.worn (1 - c) := by rcases hc with rfl | rfl <;> rfl
theorem fl_l (f : Fl) (c : Int) (t : ByteArray) (v : Int) : (fl f c t v).l = f.l := by unfold fl Fl.wear Fl.put; split <;> rfl
theorem fl_self (f : Fl) (c : Int) (hc : c = 0 ∨ c = 1) : fl f c (f.bank c) (f.worn c) = f := by rcases hc with rfl | rfl <;> rfl
theorem fl_put (f : Fl) (c : Int) (t u : ByteArray) (v : Int) : (fl f c t v).put c u = fl f c u v := by unfold fl Fl.wear Fl.put; split <;> simp_all
theorem fl_wear (f : Fl) (c : Int) (t : ByteArray) (v w : Int) : (fl f c t v).wear c w = fl f c t w := by unfold fl Fl.wear Fl.put; split <;> simp_all

theorem prog_step (f : Fl) (c : Int) (hc : c = 0 ∨ c = 1) (t d mask : ByteArray) (v : Int) (m k o : Nat) (a : Int) (ha : a = ((24 * k + o : Nat) : Int)) (ht : t.size = 24 * (m + 1)) (hk : k ≤ m) (ho : o + d.size ≤ 24) (h2 : o % 2 = 0) (hd : d.size % 2 = 0) :
    doE (fl f c t v) ⟨1, c, a, d⟩ = 0 ∧ doF (fl f c t v) ⟨1, c, a, d⟩ = fl f c (progB t (24 * k + o) d) v ∧
    tearF (fl f c t v) ⟨1, c, a, d⟩ mask = fl f c (midB t (progB t (24 * k + o) d) mask (24 * k + o) (24 * k + o + d.size)) v := by
  subst ha
  have hE : pgE (fl f c t v) c ((24 * k + o : Nat) : Int) d = 0 := by
    unfold pgE
    rw [cutE_0 hc (by unfold badAt; rw [fl_bank]; omega), if_neg (by simp), if_neg (by omega)]
  have hDE : doE (fl f c t v) ⟨1, c, ((24 * k + o : Nat) : Int), d⟩ = 0 := by unfold doE; rw [if_pos rfl]; exact hE
  have hDF : doF (fl f c t v) ⟨1, c, ((24 * k + o : Nat) : Int), d⟩ = fl f c (progB t (24 * k + o) d) v := by
    unfold doF; rw [if_pos rfl]; show pgF (fl f c t v) c ((24 * k + o : Nat) : Int) d = _
    unfold pgF; rw [if_pos hE, fl_bank, fl_put, Int.toNat_natCast]
  refine ⟨hDE, hDF, ?_⟩
  unfold tearF
  rw [if_pos hDE, hDF]
  show (fl f c (progB t (24 * k + o) d) v).put c _ = _
  rw [fl_put]
  unfold tearS
  rw [if_neg (show ¬ ((1 : Int) = 2) by decide), hDF]
  show fl f c (midB ((fl f c t v).bank c) ((fl f c (progB t (24 * k + o) d) v).bank c) mask (((24 * k + o : Nat) : Int)).toNat ((((24 * k + o : Nat) : Int)).toNat + d.size)) v = _
  rw [fl_bank, fl_bank, Int.toNat_natCast]

theorem inv_bits (mask : ByteArray) (n x : Nat) (h : x < n) : byteOr (invB mask n) 0 x = 0 ∨ byteOr (invB mask n) 0 x = 255 := by
  have hl := oddR_length mask n n
  have h1 : byteOr (invB mask n) 0 x = ~~~ ((oddR mask n n).getD x 0) := by
    show (invR (oddR mask n n) n).getD x 0 = _
    rw [List.getD_eq_getElem?_getD, List.getElem?_eq_getElem (by rw [invR_length, hl]; exact h)]
    simp [invR, h]
  have h2 : (oddR mask n n).getD x 0 = oddAt mask x := by
    rw [List.getD_eq_getElem?_getD, List.getElem?_eq_getElem (by rw [hl]; exact h)]
    simp [oddR, h]
  rw [h1, h2]
  unfold oddAt
  split
  · exact .inl rfl
  · exact .inr rfl

theorem erase_step (f : Fl) (c : Int) (hc : c = 0 ∨ c = 1) (t mask : ByteArray) (v : Int) (hv : v < f.l) :
    doE (fl f c t v) ⟨2, c, 0, ⟨#[]⟩⟩ = 0 ∧ doF (fl f c t v) ⟨2, c, 0, ⟨#[]⟩⟩ = fl f c (fullB t.size) (v + 1) ∧
    ∃ u : ByteArray, u.size = t.size ∧ (∀ x, x < t.size → byteOr u 0 x = byteOr t 0 x ∨ byteOr u 0 x = 255) ∧ tearF (fl f c t v) ⟨2, c, 0, ⟨#[]⟩⟩ mask = fl f c u (v + 1) := by
  have hE : erE (fl f c t v) c = 0 := by
    unfold erE; rw [if_neg (by omega), if_neg (by rw [fl_l, fl_worn]; omega)]
  have hDE : doE (fl f c t v) ⟨2, c, 0, ⟨#[]⟩⟩ = 0 := by unfold doE; rw [if_neg (show ¬ ((2 : Int) = 1) by decide), if_pos rfl]; exact hE
  have hDF : doF (fl f c t v) ⟨2, c, 0, ⟨#[]⟩⟩ = fl f c (fullB t.size) (v + 1) := by
    unfold doF; rw [if_neg (show ¬ ((2 : Int) = 1) by decide), if_pos rfl]; show erF (fl f c t v) c = _
    unfold erF; rw [if_pos hE, fl_bank, fl_put, fl_worn, fl_wear]
  have hf := fullB_size t.size
  refine ⟨hDE, hDF, midB (fullB t.size) t (invB mask t.size) 0 t.size, by rw [midB_size _ _ _ _ _ (by omega) (by omega), hf], fun x hx => ?_, ?_⟩
  · rw [midB_byte _ _ _ _ _ _ (by omega) (by omega) (by omega) (by omega), if_pos ⟨by omega, hx⟩, fullB_at _ 0 _ hx, Nat.sub_zero]
    rcases inv_bits mask t.size x hx with e | e
    · right; rw [e, law_none]
    · left; rw [e, law_all, UInt8.and_comm, law_255]
  · unfold tearF
    rw [if_pos hDE, hDF]
    show (fl f c (fullB t.size) (v + 1)).put c _ = _
    rw [fl_put]
    unfold tearS
    rw [if_pos rfl, hDF]
    show fl f c (midB ((fl f c (fullB t.size) (v + 1)).bank c) ((fl f c t v).bank c) (invB mask ((fl f c t v).bank c).size) 0 ((fl f c t v).bank c).size) (v + 1) = _
    rw [fl_bank, fl_bank]

/-- ops that go well, one behind the other: Q holds of what each of them is, torn; R of the end -/
def Chain (Q R : Fl → Prop) (mask : ByteArray) : Fl → List Oq → Prop
  | f, [] => R f
  | f, o :: L => doE f o = 0 ∧ Q (tearF f o mask) ∧ Chain Q R mask (doF f o) L
theorem chain_play {Q R : Fl → Prop} {mask : ByteArray} (cut : Int) : ∀ (L : List Oq) (f : Fl) (i : Nat), Chain Q R mask f L →
    (playK cut mask f L i).e = 0 ∧ (Q (playK cut mask f L i).f ∨ R (playK cut mask f L i).f) ∧ ((cut < (i : Int) ∨ (i : Int) + (L.length : Int) ≤ cut) → R (playK cut mask f L i).f ∧ (playK cut mask f L i).n = (i : Int) + (L.length : Int))
  | [], f, i, h => ⟨rfl, .inr h, fun _ => ⟨h, by show (i : Int) = (i : Int) + ((0 : Nat) : Int); omega⟩⟩
  | o :: L, f, i, h => by
    obtain ⟨h1, h2, h3⟩ := h
    have hl : ((o :: L).length : Int) = (L.length : Int) + 1 := by simp
    by_cases hc : (i : Int) = cut
    · rw [playK_cut hc]
      exact ⟨h1, .inl h2, fun h => by omega⟩
    · rw [playK_on hc h1]
      obtain ⟨a, b, c⟩ := chain_play cut L (doF f o) (i + 1) h3
      refine ⟨a, b, fun h => ?_⟩
      obtain ⟨d, e⟩ := c (by omega)
      exact ⟨d, by rw [e]; omega⟩

theorem fresh_chain (Q R : Fl → Prop) (f : Fl) (c : Int) (hc : c = 0 ∨ c = 1) (m g q dd : Nat) (h1 : 1 ≤ m) (h12 : m ≤ 12) (mask : ByteArray) (kill : Bool) (t : ByteArray) (v : Int) (ht : t.size = 24 * (m + 1)) (hv : v < f.l)
    (hkill : kill = true → stateP 0 (place t 0) = 2) (hdead : kill = false → DeadP (place t 0)) (hg : g < 18446744073709551616) (hq : q < 18446744073709551616) (hd : dd < 18446744073709551616)
    (hQ : ∀ u w, u.size = 24 * (m + 1) → (DeadP (place u 0) ∨ place u 0 = place t 0) → w ≤ v + 1 → Q (fl f c u w))
    (hQR : ∀ u, u.size = 24 * (m + 1) → Says u g q dd → Q (fl f c u (v + 1))) (hR : ∀ u, u.size = 24 * (m + 1) → Says u g q dd → R (fl f c u (v + 1))) :
    Chain Q R mask (fl f c t v) (freshL c kill g q dd) := by
  -- behind the kill, if any
  have rest : ∀ t : ByteArray, t.size = 24 * (m + 1) → DeadP (place t 0) → Chain Q R mask (fl f c t v) ([⟨2, c, 0, ⟨#[]⟩⟩] ++ writeL c 1 3 q dd ++ writeL c 0 1 g 0) := by
    intro t ht hdt
    obtain ⟨e1, e2, u, e3, e4, e5⟩ := erase_step f c hc t mask v hv
    have b1 := bodyB_size 3 q dd
    have b0 := bodyB_size 1 g 0
    have hmk : (⟨#[90, 60]⟩ : ByteArray).size = 2 := rfl
    have hfz := fullB_size t.size
    refine ⟨e1, ?_, ?_⟩
    · rw [e5]
      refine hQ u _ (by omega) (.inl (blank_dead hdt fun j hj => ?_)) (by omega)
      rw [place_byte u 0 m j (by omega) (by omega) hj, place_byte t 0 m j ht (by omega) hj]
      exact e4 _ (by omega)
    rw [e2, ht]
    have z0 := fullB_size (24 * (m + 1))
    have p0 := place_full m
    -- the body of slot 1
    have A1 : atL 1 = ((24 * 1 + 0 : Nat) : Int) := by decide
    have M1 : markL 1 = ((24 * 1 + 22 : Nat) : Int) := by decide
    have A0 : atL 0 = ((24 * 0 + 0 : Nat) : Int) := by decide
    have M0 : markL 0 = ((24 * 0 + 22 : Nat) : Int) := by decide
    generalize fullB (24 * (m + 1)) = t1 at *
    obtain ⟨s1, s2, s3⟩ := prog_step f c hc t1 (bodyB 3 q dd) mask (v + 1) m 1 0 _ A1 z0 h1 (by omega) (by decide) (by omega)
    have q2 := fun j hj => place_prog t1 (bodyB 3 q dd) m m 0 j z0 (Nat.le_refl _) (by omega) hj
    have y2 := fun j hj => place_prog t1 (bodyB 3 q dd) 1 m 0 j z0 h1 (by omega) hj
    have y3 := fun j hj => place_torn t1 (bodyB 3 q dd) mask 1 m 0 j z0 h1 (by omega) hj
    have z2 := progB_size t1 (bodyB 3 q dd) (24 * 1 + 0) (by omega)
    have w2 := midB_size t1 (progB t1 (24 * 1 + 0) (bodyB 3 q dd)) mask (24 * 1 + 0) (24 * 1 + 0 + (bodyB 3 q dd).size) (by omega) (by omega)
    refine ⟨s1, ?_, ?_⟩
    · rw [s3]
      refine hQ _ _ (by omega) (.inl ?_) (by omega)
      rw [y3 0 (by omega), if_neg (by decide), p0 0 (by omega)]; exact full_dead
    rw [s2]
    clear s1 s2 s3 y3 w2 q2
    generalize progB t1 (24 * 1 + 0) (bodyB 3 q dd) = t2 at *
    -- its mark
    obtain ⟨s1, s2, s3⟩ := prog_step f c hc t2 ⟨#[90, 60]⟩ mask (v + 1) m 1 22 _ M1 (by omega) h1 (by omega) (by decide) (by omega)
    have y4 := fun j hj => place_prog t2 ⟨#[90, 60]⟩ 1 m 22 j (by omega) h1 (by omega) hj
    have y5 := fun j hj => place_torn t2 ⟨#[90, 60]⟩ mask 1 m 22 j (by omega) h1 (by omega) hj
    have z3 := progB_size t2 ⟨#[90, 60]⟩ (24 * 1 + 22) (by omega)
    have w3 := midB_size t2 (progB t2 (24 * 1 + 22) ⟨#[90, 60]⟩) mask (24 * 1 + 22) (24 * 1 + 22 + (⟨#[90, 60]⟩ : ByteArray).size) (by omega) (by omega)
    refine ⟨s1, ?_, ?_⟩
    · rw [s3]
      refine hQ _ _ (by omega) (.inl ?_) (by omega)
      rw [y5 0 (by omega), if_neg (by decide), y2 0 (by omega), if_neg (by decide), p0 0 (by omega)]; exact full_dead
    rw [s2]
    clear s1 s2 s3 y5 w3
    generalize progB t2 (24 * 1 + 22) ⟨#[90, 60]⟩ = t3 at *
    -- the body of the header
    obtain ⟨s1, s2, s3⟩ := prog_step f c hc t3 (bodyB 1 g 0) mask (v + 1) m 0 0 _ A0 (by omega) (by omega) (by omega) (by decide) (by omega)
    have y6 := fun j hj => place_prog t3 (bodyB 1 g 0) 0 m 0 j (by omega) (by omega) (by omega) hj
    have y7 := fun j hj => place_torn t3 (bodyB 1 g 0) mask 0 m 0 j (by omega) (by omega) (by omega) hj
    have z4 := progB_size t3 (bodyB 1 g 0) (24 * 0 + 0) (by omega)
    have w4 := midB_size t3 (progB t3 (24 * 0 + 0) (bodyB 1 g 0)) mask (24 * 0 + 0) (24 * 0 + 0 + (bodyB 1 g 0).size) (by omega) (by omega)
    refine ⟨s1, ?_, ?_⟩
    · rw [s3]
      refine hQ _ _ (by omega) (.inl ?_) (by omega)
      rw [y7 0 (by omega), if_pos rfl, y4 0 (by omega), if_neg (by decide), y2 0 (by omega), if_neg (by decide), p0 0 (by omega)]
      exact tail_dead ((torn_body (bodyB 1 g 0) mask b0).2 22 (by omega) (by omega))
    rw [s2]
    clear s1 s2 s3 y7 w4
    generalize progB t3 (24 * 0 + 0) (bodyB 1 g 0) = t4 at *
    -- its mark
    obtain ⟨s1, s2, s3⟩ := prog_step f c hc t4 ⟨#[90, 60]⟩ mask (v + 1) m 0 22 _ M0 (by omega) (by omega) (by omega) (by decide) (by omega)
    have y8 := fun j hj => place_prog t4 ⟨#[90, 60]⟩ 0 m 22 j (by omega) (by omega) (by omega) hj
    have y9 := fun j hj => place_torn t4 ⟨#[90, 60]⟩ mask 0 m 22 j (by omega) (by omega) (by omega) hj
    have z5 := progB_size t4 ⟨#[90, 60]⟩ (24 * 0 + 22) (by omega)
    have w5 := midB_size t4 (progB t4 (24 * 0 + 22) ⟨#[90, 60]⟩) mask (24 * 0 + 22) (24 * 0 + 22 + (⟨#[90, 60]⟩ : ByteArray).size) (by omega) (by omega)
    have f0 : place t4 0 = bodyB 1 g 0 ++ fullB 2 := by
      rw [y6 0 (by omega), if_pos rfl, y4 0 (by omega), if_neg (by decide), y2 0 (by omega), if_neg (by decide), p0 0 (by omega), prog_body _ b0]
    have f1 : place t4 1 = encB 3 q dd := by
      rw [y6 1 (by omega), if_neg (by decide), y4 1 (by omega), if_pos rfl, y2 1 (by omega), if_pos rfl, p0 1 (by omega), prog_body _ b1, prog_mark _ b1]; rfl
    have fz : ∀ j, 2 ≤ j → j ≤ m → place t4 j = fullB 24 := fun j h2 hj => by
      rw [y6 j hj, if_neg (by omega), y4 j hj, if_neg (by omega), y2 j hj, if_neg (by omega), p0 j hj]
    have done : ∀ u : ByteArray, u.size = t4.size → place u 0 = bodyB 1 g 0 ++ ⟨#[90, 60]⟩ → (∀ j, j ≤ m → j ≠ 0 → place u j = place t4 j) → Says u g q dd := fun u hu h0 ho =>
      new_says (by omega) h1 h12 hg hq hd h0 (by rw [ho 1 h1 (by decide), f1]) fun j h2 hj => by rw [ho j hj (by omega), fz j h2 hj]
    refine ⟨s1, ?_, ?_⟩
    · rw [s3]
      obtain ⟨e, he, hT⟩ := torn_mark (bodyB 1 g 0) mask b0
      have h0 := y9 0 (by omega)
      rw [if_pos rfl, f0, hT] at h0
      rcases mark_dead b0 he with rfl | hdd
      · exact hQR _ (by omega) (done _ w5 h0 fun j hj hne => by rw [y9 j hj, if_neg hne])
      · exact hQ _ _ (by omega) (.inl (by rw [h0]; exact hdd)) (by omega)
    · rw [s2]
      have h0 := y8 0 (by omega)
      rw [if_pos rfl, f0, prog_mark _ b0] at h0
      exact hR _ (by omega) (done _ z5 h0 fun j hj hne => by rw [y8 j hj, if_neg hne])
  unfold freshL
  cases kill
  · exact rest t ht (hdead rfl)
  · have hH := hkill rfl
    have hk2 : (⟨#[0, 0]⟩ : ByteArray).size = 2 := rfl
    have hpz := place_sz t 0 m ht (by omega)
    obtain ⟨s1, s2, s3⟩ := prog_step f c hc t ⟨#[0, 0]⟩ mask v m 0 0 0 rfl ht (by omega) (by omega) (by decide) (by omega)
    have y1 := place_prog t ⟨#[0, 0]⟩ 0 m 0 0 ht (by omega) (by omega) (by omega)
    have y2 := place_torn t ⟨#[0, 0]⟩ mask 0 m 0 0 ht (by omega) (by omega) (by omega)
    have z1 := progB_size t ⟨#[0, 0]⟩ (24 * 0 + 0) (by omega)
    have w1 := midB_size t (progB t (24 * 0 + 0) ⟨#[0, 0]⟩) mask (24 * 0 + 0) (24 * 0 + 0 + (⟨#[0, 0]⟩ : ByteArray).size) (by omega) (by omega)
    rw [if_pos rfl] at y1 y2
    refine ⟨s1, ?_, ?_⟩
    · rw [s3]
      refine hQ _ _ (by omega) ?_ (by omega)
      rw [y2]
      rcases kill_torn (place t 0) mask hpz hH with e | e
      · exact .inr e
      · exact .inl e
    · rw [s2]
      exact rest _ (by omega) (by rw [y1]; exact kill_dead _ hpz)
end Go.Proofs.YtebkeocpojlepaaGreatDoor

/- Plain law of the journal: a state that is put, cut anywhere, is the one ahead of it or the new one; with no cut it is the new one. -/
namespace Go.Proofs.YtebkeocpojlepaaGreatDoor
set_option linter.unusedVariables false
set_option linter.unusedSimpArgs false

/-- a flash that says d: m slots, worn at most k times of L -/
def JI (m : Nat) (L : Int) (k d : Nat) (f : Fl) : Prop :=
  1 ≤ m ∧ m ≤ 12 ∧ f.a.size = 24 * (m + 1) ∧ f.b.size = 24 * (m + 1) ∧ f.l = L ∧ f.x ≤ (k : Int) ∧ f.y ≤ (k : Int) ∧
  ∃ (b : Int) (g q : Nat), (b = 0 ∨ b = 1) ∧ Says (f.bank b) g q d ∧ Low g (f.bank (1 - b)) ∧ g ≤ k ∧ q ≤ k
theorem JI.mono {m : Nat} {L : Int} {k k' d : Nat} {f : Fl} (h : JI m L k d f) (hk : k ≤ k') : JI m L k' d f := by
  obtain ⟨h1, h2, h3, h4, h5, h6, h7, b, g, q, hb, hS, hL, hg, hq⟩ := h
  exact ⟨h1, h2, h3, h4, h5, by omega, by omega, b, g, q, hb, hS, hL, by omega, by omega⟩

theorem of_says {s : ByteArray} {m g q d : Nat} (hs : s.size = 24 * (m + 1)) (h1 : 1 ≤ m) (h2 : m ≤ 12) (S : Says s g q d) (i : Int) : ofP s i = ⟨i, g, q, d⟩ := by
  have h0 : stateS s 0 = 2 := by unfold stateS; rw [slot_zero hs h1 h2]; exact S.hd
  unfold ofP
  rw [if_pos ⟨by unfold genE; rw [if_pos h0], S.e⟩, S.n, S.dat]
  unfold genN
  rw [if_pos h0, slot_zero hs h1 h2, S.gen]
theorem of_low {s : ByteArray} {m g : Nat} (hs : s.size = 24 * (m + 1)) (h1 : 1 ≤ m) (h2 : m ≤ 12) (S : Low g s) (i : Int) : ofP s i = pNone ∨ ∃ g' q d, g' < g ∧ ofP s i = ⟨i, g', q, d⟩ := by
  rcases S with S | ⟨S, hg⟩
  · left
    have h0 : stateS s 0 ≠ 2 := by unfold stateS; rw [slot_zero hs h1 h2]; exact dead_state S
    unfold ofP
    rw [if_neg]
    intro h
    have := h.1
    unfold genE at this
    rw [if_neg h0] at this
    cases this
  · have h0 : stateS s 0 = 2 := by unfold stateS; rw [slot_zero hs h1 h2]; exact S
    have hn : genN s = decN (place s 0) := by unfold genN; rw [if_pos h0, slot_zero hs h1 h2]
    unfold ofP
    split
    · right; exact ⟨genN s, _, _, by rw [hn]; exact hg, rfl⟩
    · left; rfl

theorem read_of {f : Fl} {m g q d : Nat} {b : Int} (hb : b = 0 ∨ b = 1) (h1 : 1 ≤ m) (h2 : m ≤ 12) (ha : f.a.size = 24 * (m + 1)) (hbz : f.b.size = 24 * (m + 1)) (S : Says (f.bank b) g q d) (hL : Low g (f.bank (1 - b))) :
    readE f = 0 ∧ readV f = ⟨b, g, q, d⟩ := by
  have hne : ∀ (i : Int), i = 0 ∨ i = 1 → ∀ g' q' d', (⟨i, g', q', d'⟩ : Ps) ≠ pNone := by
    intro i hi g' q' d' e
    have : i = -1 := congrArg Ps.bank e
    omega
  have hB : bestV f = ⟨b, g, q, d⟩ := by
    unfold bestV bestP
    rcases hb with rfl | rfl
    · have e1 : ofP f.a 0 = ⟨0, g, q, d⟩ := of_says ha h1 h2 S 0
      rw [e1]
      rcases of_low hbz h1 h2 (show Low g f.b from hL) 1 with e2 | ⟨g', q', d', hg, e2⟩
      · rw [if_pos e2]
      · rw [e2, if_neg (hne 1 (.inr rfl) _ _ _), if_neg]
        rintro (h | h)
        · exact hne 0 (.inl rfl) _ _ _ h
        · have : g < g' := h
          omega
    · have e1 : ofP f.b 1 = ⟨1, g, q, d⟩ := of_says hbz h1 h2 S 1
      rw [e1, if_neg (hne 1 (.inr rfl) _ _ _), if_pos]
      rcases of_low ha h1 h2 (show Low g f.a from hL) 0 with e2 | ⟨g', q', d', hg, e2⟩
      · exact .inl e2
      · right; rw [e2]; exact hg
  unfold readE readV
  rw [hB, if_neg (hne b hb _ _ _), if_neg (hne b hb _ _ _)]
  exact ⟨rfl, rfl⟩
theorem JI.read {m : Nat} {L : Int} {k d : Nat} {f : Fl} (h : JI m L k d f) : readE f = 0 ∧ (readV f).dat = d := by
  obtain ⟨h1, h2, h3, h4, h5, h6, h7, b, g, q, hb, hS, hL, hg, hq⟩ := h
  obtain ⟨e1, e2⟩ := read_of hb h1 h2 h3 h4 hS hL
  exact ⟨e1, by rw [e2]⟩
theorem even_of {f : Fl} {m : Nat} (h1 : 1 ≤ m) (h2 : m ≤ 12) (ha : f.a.size = 24 * (m + 1)) (hb : f.b.size = 24 * (m + 1)) : evenF f = true := by
  unfold evenF slotsL
  rw [ha, hb, if_pos (by omega)]
  simp; omega
theorem bank_sz {f : Fl} {m : Nat} (ha : f.a.size = 24 * (m + 1)) (hb : f.b.size = 24 * (m + 1)) (b : Int) : (f.bank b).size = 24 * (m + 1) := by
  unfold Fl.bank; split <;> assumption
theorem fl_sizes {f : Fl} {m : Nat} (ha : f.a.size = 24 * (m + 1)) (hb : f.b.size = 24 * (m + 1)) (c : Int) {t : ByteArray} (ht : t.size = 24 * (m + 1)) (v : Int) : (fl f c t v).a.size = 24 * (m + 1) ∧ (fl f c t v).b.size = 24 * (m + 1) := by
  unfold fl Fl.wear Fl.put
  split <;> exact ⟨by assumption, by assumption⟩
theorem fl_wears {f : Fl} {c : Int} {t : ByteArray} {v : Int} {k : Int} (hx : f.x ≤ k) (hy : f.y ≤ k) (hv : v ≤ k) : (fl f c t v).x ≤ k ∧ (fl f c t v).y ≤ k := by
  unfold fl Fl.wear Fl.put
  split <;> exact ⟨by assumption, by assumption⟩
theorem worn_le {f : Fl} {k : Int} (hx : f.x ≤ k) (hy : f.y ≤ k) (b : Int) : f.worn b ≤ k := by unfold Fl.worn; split <;> assumption

/-- what becomes of a bank's own record: the current bank turned -/
theorem JI.turn {m : Nat} {L : Int} {k d g q b' : Nat} {f : Fl} {b : Int} {t : ByteArray} {v : Int} (h1 : 1 ≤ m) (h2 : m ≤ 12) (ha : f.a.size = 24 * (m + 1)) (hbz : f.b.size = 24 * (m + 1)) (hl : f.l = L) (hx : f.x ≤ (k : Int)) (hy : f.y ≤ (k : Int))
    (hb : b = 0 ∨ b = 1) (ht : t.size = 24 * (m + 1)) (hv : v ≤ (k : Int)) (S : Says t g q d) (hL : Low g (f.bank (1 - b))) (hg : g ≤ k) (hq : q ≤ k) : JI m L k d (fl f b t v) := by
  obtain ⟨z1, z2⟩ := fl_sizes ha hbz b ht v
  obtain ⟨w1, w2⟩ := fl_wears (c := b) (t := t) hx hy hv
  exact ⟨h1, h2, z1, z2, by rw [fl_l, hl], w1, w2, b, g, q, hb, by rw [fl_bank]; exact S, by rw [fl_other _ _ hb]; exact hL, hg, hq⟩
/-- the other bank turned, to something that says nothing newer -/
theorem JI.other {m : Nat} {L : Int} {k d g q : Nat} {f : Fl} {b c : Int} {t : ByteArray} {v : Int} (h1 : 1 ≤ m) (h2 : m ≤ 12) (ha : f.a.size = 24 * (m + 1)) (hbz : f.b.size = 24 * (m + 1)) (hl : f.l = L) (hx : f.x ≤ (k : Int)) (hy : f.y ≤ (k : Int))
    (hb : b = 0 ∨ b = 1) (hc : c = 1 - b) (ht : t.size = 24 * (m + 1)) (hv : v ≤ (k : Int)) (S : Says (f.bank b) g q d) (hL : Low g t) (hg : g ≤ k) (hq : q ≤ k) : JI m L k d (fl f c t v) := by
  obtain ⟨z1, z2⟩ := fl_sizes ha hbz c ht v
  obtain ⟨w1, w2⟩ := fl_wears (c := c) (t := t) hx hy hv
  have hc' : c = 0 ∨ c = 1 := by omega
  have e := fl_other f c hc' t v
  rw [show 1 - c = b by omega] at e
  refine ⟨h1, h2, z1, z2, by rw [fl_l, hl], w1, w2, b, g, q, hb, by rw [e]; exact S, ?_, hg, hq⟩
  rw [← hc, fl_bank]; exact hL

theorem chain_put {P Q : Fl → Prop} {f : Fl} {d : Nat} {cut : Int} {mask : ByteArray} (hE : planE f = 0) (hC : Chain P Q mask f (planL f d)) :
    (P (putF f d cut mask) ∨ Q (putF f d cut mask)) ∧ ((cut < 0 ∨ 6 ≤ cut) → Q (putF f d cut mask) ∧ (readE (putF f d cut mask) = 0 → (readV (putF f d cut mask)).dat = d → putA f d cut mask = true)) ∧
    (putA f d cut mask = true → (readV (putF f d cut mask)).dat = d) := by
  have hln := (plan_ok f d).2
  have eF : putF f d cut mask = (putP f d cut mask).f := by unfold putF; rw [if_neg (by simp [hE])]
  have eA : putA f d cut mask = ackB (putP f d cut mask).e (putP f d cut mask).n (planL f d).length (readE (putP f d cut mask).f) (readV (putP f d cut mask).f).dat d := by unfold putA; rw [if_neg (by simp [hE])]
  obtain ⟨a, b, c⟩ := chain_play cut _ f 0 hC
  rw [eF, eA]
  unfold putP at *
  refine ⟨b, fun h => ?_, fun h => ?_⟩
  · obtain ⟨c1, c2⟩ := c (by omega)
    refine ⟨c1, fun h3 h4 => ?_⟩
    unfold ackB
    rw [a, c2, h3, h4]
    simp
  · unfold ackB at h
    simp at h
    exact h.2

set_option maxHeartbeats 1000000 in
theorem put_law {m : Nat} {L : Int} {k d : Nat} {f : Fl} (J : JI m L k d f) (hk : (k : Int) < L) (hK : k < 1000000) {dd : Nat} (hd : dd < 18446744073709551616) (cut : Int) (mask : ByteArray) :
    planE f = 0 ∧ (JI m L (k + 1) d (putF f dd cut mask) ∨ JI m L (k + 1) dd (putF f dd cut mask)) ∧ ((cut < 0 ∨ 6 ≤ cut) → JI m L (k + 1) dd (putF f dd cut mask) ∧ putA f dd cut mask = true) ∧
    (putA f dd cut mask = true → JI m L (k + 1) dd (putF f dd cut mask)) := by
  suffices H : planE f = 0 ∧ Chain (fun u => JI m L (k + 1) d u ∨ JI m L (k + 1) dd u) (fun u => JI m L (k + 1) dd u) mask f (planL f dd) by
    obtain ⟨hE, hC⟩ := H
    obtain ⟨a, b, c⟩ := chain_put (cut := cut) hE hC
    refine ⟨hE, ?_, fun h => ?_, fun h => ?_⟩
    · rcases a with (a | a) | a
      · exact .inl a
      · exact .inr a
      · exact .inr a
    · obtain ⟨b1, b2⟩ := b h
      exact ⟨b1, b2 b1.read.1 b1.read.2⟩
    · have hx := c h
      rcases a with (a | a) | a
      · have e : dd = d := hx.symm.trans a.read.2
        clear hC b c h
        generalize putF f dd cut mask = u at *
        subst e
        exact a
      · exact a
      · exact a
  obtain ⟨h1, h2, ha, hbz, hl, hx, hy, b, g, q, hb, hS, hL, hg, hq⟩ := J
  obtain ⟨rE, rV⟩ := read_of hb h1 h2 ha hbz hS hL
  have hE := even_of h1 h2 ha hbz
  have hs := bank_sz ha hbz b
  have ho := bank_sz ha hbz (1 - b)
  have pE : planE f = nextE f ⟨b, g, q, d⟩ := by unfold planE; rw [hE, rE, rV]; simp
  have pL : planL f dd = nextL f ⟨b, g, q, d⟩ dd := by unfold planL; rw [hE, rE, rV]; simp
  rw [pE, pL]
  unfold nextE nextL
  rw [if_neg (show ¬ q = 18446744073709551615 by omega), if_neg (show ¬ q = 18446744073709551615 by omega)]
  by_cases hn : 0 < nextS (f.bank b)
  · rw [if_pos hn, if_pos hn]
    refine ⟨rfl, ?_⟩
    obtain ⟨n, hnx⟩ : ∃ n : Nat, nextS (f.bank b) = (n : Int) := ⟨(nextS (f.bank b)).toNat, by omega⟩
    have hn1 : 1 ≤ n := by omega
    obtain ⟨hnm, hz⟩ := next_zero (placeN_of hs h1 h2) hnx hn1
    have hblank : place (f.bank b) n = fullB 24 := by
      have := hz n (Nat.le_refl _) hnm
      unfold stateS at this
      rw [slot_place hs h1 h2 n hnm] at this
      exact state_blank this
    show Chain _ _ mask f (writeL b (nextS (f.bank b)) 2 (q + 1) dd)
    rw [hnx]
    have b1 := bodyB_size 2 (q + 1) dd
    have hmk : (⟨#[90, 60]⟩ : ByteArray).size = 2 := rfl
    have A1 : atL (n : Int) = ((24 * n + 0 : Nat) : Int) := by unfold atL; rw [if_pos (by omega)]; omega
    have M1 : markL (n : Int) = ((24 * n + 22 : Nat) : Int) := by unfold markL; rw [if_pos (by omega)]; omega
    have hw := worn_le hx hy b
    rw [show Chain _ _ mask f (writeL b (n : Int) 2 (q + 1) dd) ↔ Chain _ _ mask (fl f b (f.bank b) (f.worn b)) (writeL b (n : Int) 2 (q + 1) dd) by rw [fl_self f b hb]]
    have keep : ∀ u : ByteArray, u.size = 24 * (m + 1) → (∀ j, j ≤ m → j ≠ n → place u j = place (f.bank b) j) →
        (stateP (n : Int) (place u n) ≠ 2 → JI m L (k + 1) d (fl f b u (f.worn b))) ∧ (place u n = encB 2 (q + 1) dd → JI m L (k + 1) dd (fl f b u (f.worn b))) := by
      intro u hu hp
      obtain ⟨c1, c2⟩ := app_says (t := u) hs h1 h2 (by omega) hnx hn1 hp hS
      exact ⟨fun h => JI.turn (b' := 0) h1 h2 ha hbz hl (by omega) (by omega) hb hu (by omega) (c1 h) hL (by omega) (by omega), fun h => JI.turn (b' := 0) h1 h2 ha hbz hl (by omega) (by omega) hb hu (by omega) (c2 dd (by omega) hd h) hL (by omega) (by omega)⟩
    generalize f.bank b = s at *
    generalize f.worn b = v at *
    obtain ⟨s1, s2, s3⟩ := prog_step f b hb s (bodyB 2 (q + 1) dd) mask v m n 0 _ A1 hs hnm (by omega) (by decide) (by omega)
    have y1 := fun j hj => place_prog s (bodyB 2 (q + 1) dd) n m 0 j hs hnm (by omega) hj
    have y2 := fun j hj => place_torn s (bodyB 2 (q + 1) dd) mask n m 0 j hs hnm (by omega) hj
    have z1 := progB_size s (bodyB 2 (q + 1) dd) (24 * n + 0) (by omega)
    have w1 := midB_size s (progB s (24 * n + 0) (bodyB 2 (q + 1) dd)) mask (24 * n + 0) (24 * n + 0 + (bodyB 2 (q + 1) dd).size) (by omega) (by omega)
    refine ⟨s1, ?_, ?_⟩
    · rw [s3]
      refine .inl ((keep _ (by omega) fun j hj hne => by rw [y2 j hj, if_neg hne]).1 ?_)
      rw [y2 n hnm, if_pos rfl, hblank]
      exact dead_state (tail_dead ((torn_body _ mask b1).2 22 (by omega) (by omega)))
    rw [s2]
    clear s1 s2 s3 y2 w1
    generalize progB s (24 * n + 0) (bodyB 2 (q + 1) dd) = t at *
    have f1 : place t n = bodyB 2 (q + 1) dd ++ fullB 2 := by rw [y1 n hnm, if_pos rfl, hblank, prog_body _ b1]
    obtain ⟨s1, s2, s3⟩ := prog_step f b hb t ⟨#[90, 60]⟩ mask v m n 22 _ M1 (by omega) hnm (by omega) (by decide) (by omega)
    have y3 := fun j hj => place_prog t ⟨#[90, 60]⟩ n m 22 j (by omega) hnm (by omega) hj
    have y4 := fun j hj => place_torn t ⟨#[90, 60]⟩ mask n m 22 j (by omega) hnm (by omega) hj
    have z3 := progB_size t ⟨#[90, 60]⟩ (24 * n + 22) (by omega)
    have w3 := midB_size t (progB t (24 * n + 22) ⟨#[90, 60]⟩) mask (24 * n + 22) (24 * n + 22 + (⟨#[90, 60]⟩ : ByteArray).size) (by omega) (by omega)
    refine ⟨s1, ?_, ?_⟩
    · rw [s3]
      obtain ⟨e, he, hT⟩ := torn_mark (bodyB 2 (q + 1) dd) mask b1
      have h0 := y4 n hnm
      rw [if_pos rfl, f1, hT] at h0
      obtain ⟨k1, k2⟩ := keep _ (w3.trans (by omega)) (fun j hj hne => by rw [y4 j hj, if_neg hne, y1 j hj, if_neg hne])
      rcases mark_dead b1 he with rfl | hdd
      · exact .inr (k2 h0)
      · exact .inl (k1 (by rw [h0]; exact dead_state hdd))
    · rw [s2]
      have h0 := y3 n hnm
      rw [if_pos rfl, f1, prog_mark _ b1] at h0
      exact (keep _ (z3.trans (by omega)) (fun j hj hne => by rw [y3 j hj, if_neg hne, y1 j hj, if_neg hne])).2 h0
  · rw [if_neg hn, if_neg hn, if_neg (show ¬ g = 18446744073709551615 by omega), if_neg (show ¬ g = 18446744073709551615 by omega)]
    have hw := worn_le hx hy (1 - b)
    have hwn : ¬ wornB f (1 - b) = true := by unfold wornB; simp; omega
    show (if wornB f (1 - b) = true then (4 : Int) else 0) = 0 ∧ Chain _ _ mask f (if wornB f (1 - b) = true then [] else freshL (1 - b) (killB f (1 - b)) (g + 1) (q + 1) dd)
    rw [if_neg hwn, if_neg hwn]
    refine ⟨rfl, ?_⟩
    have hc : 1 - b = 0 ∨ 1 - b = 1 := by omega
    have hst : stateS (f.bank (1 - b)) 0 = stateP 0 (place (f.bank (1 - b)) 0) := by unfold stateS; rw [slot_zero ho h1 h2]
    have R := fresh_chain (fun u => JI m L (k + 1) d u ∨ JI m L (k + 1) dd u) (fun u => JI m L (k + 1) dd u) f (1 - b) hc m (g + 1) (q + 1) dd h1 h2 mask (killB f (1 - b)) (f.bank (1 - b)) (f.worn (1 - b)) ho (by omega)
      (fun h => by unfold killB at h; rw [hst] at h; exact of_decide_eq_true h)
      (fun h => by
        unfold killB at h; rw [hst] at h
        rcases hL with hL | hL
        · exact hL
        · exact absurd hL.1 (of_decide_eq_false h))
      (by omega) (by omega) hd
      (fun u w hu hp hwl => .inl (JI.other h1 h2 ha hbz hl (by omega) (by omega) hb rfl hu (by omega) hS (by
        rcases hp with hp | hp
        · exact .inl hp
        · rcases hL with hL | hL
          · exact .inl (by rw [hp]; exact hL)
          · exact .inr (by rw [hp]; exact hL)) (by omega) (by omega)))
      (fun u hu hs' => .inr (JI.turn (b' := 0) h1 h2 ha hbz hl (by omega) (by omega) hc hu (by omega) hs' (by rw [show 1 - (1 - b) = b by omega]; exact .inr ⟨hS.hd, by rw [hS.gen]; omega⟩) (by omega) (by omega)))
      (fun u hu hs' => JI.turn (b' := 0) h1 h2 ha hbz hl (by omega) (by omega) hc hu (by omega) hs' (by rw [show 1 - (1 - b) = b by omega]; exact .inr ⟨hS.hd, by rw [hS.gen]; omega⟩) (by omega) (by omega))
    rw [fl_self f _ hc] at R
    exact R

/-- a new flash: it says nothing, and takes a first state -/
theorem new_law {m : Nat} {L : Int} (h1 : 1 ≤ m) (h2 : m ≤ 12) (hL : 0 < L) {dd : Nat} (hd : dd < 18446744073709551616) (mask : ByteArray) :
    readE ⟨fullB (24 * (m + 1)), fullB (24 * (m + 1)), 0, 0, L⟩ ≠ 0 ∧ planE ⟨fullB (24 * (m + 1)), fullB (24 * (m + 1)), 0, 0, L⟩ = 0 ∧ JI m L 1 dd (putF ⟨fullB (24 * (m + 1)), fullB (24 * (m + 1)), 0, 0, L⟩ dd (-1) mask) ∧ putA ⟨fullB (24 * (m + 1)), fullB (24 * (m + 1)), 0, 0, L⟩ dd (-1) mask = true := by
  have hz := fullB_size (24 * (m + 1))
  have hp := place_full m 0 (by omega)
  have hF : ∃ f : Fl, f = ⟨fullB (24 * (m + 1)), fullB (24 * (m + 1)), 0, 0, L⟩ := ⟨_, rfl⟩
  obtain ⟨f, hf⟩ := hF
  have hb0 : f.bank 0 = fullB (24 * (m + 1)) := by rw [hf]; rfl
  have hb1 : f.bank 1 = fullB (24 * (m + 1)) := by rw [hf]; rfl
  have hlow : Low 0 (fullB (24 * (m + 1))) := .inl (by rw [hp]; exact full_dead)
  have hn : ∀ i, ofP (fullB (24 * (m + 1))) i = pNone := by
    intro i
    rcases of_low hz h1 h2 hlow i with e | ⟨g', q', d', hg, e⟩
    · exact e
    · omega
  have rE : readE f = 10 := by
    have : bestV f = pNone := by unfold bestV bestP; rw [show f.a = fullB (24 * (m + 1)) from hb0, show f.b = fullB (24 * (m + 1)) from hb1, hn, hn, if_pos rfl]
    unfold readE; rw [if_pos this]
  have hE := even_of (f := f) h1 h2 (by rw [hf]; exact hz) (by rw [hf]; exact hz)
  have w0 : wornB f 0 = false := by unfold wornB; rw [hf]; show decide (L ≤ 0) = false; simp; omega
  have k0 : killB f 0 = false := by
    unfold killB stateS; rw [hb0, slot_zero hz h1 h2, hp, stateP_full]; rfl
  have pE : planE f = 0 := by unfold planE firstE; rw [hE, rE, w0]; simp
  have pL : planL f dd = freshL 0 false 1 1 dd := by unfold planL firstL; rw [hE, rE, w0, k0]; simp
  have R := fresh_chain (fun _ => True) (fun u => JI m L 1 dd u) f 0 (.inl rfl) m 1 1 dd h1 h2 mask false (f.bank 0) (f.worn 0) (by rw [hb0]; exact hz) (by rw [hf]; show (0 : Int) < L; exact hL)
    (fun h => by cases h) (fun _ => by rw [hb0, hp]; exact full_dead) (by decide) (by decide) hd (fun _ _ _ _ _ => trivial) (fun _ _ _ => trivial)
    (fun u hu hs' => JI.turn (b' := 0) h1 h2 (by rw [hf]; exact hz) (by rw [hf]; exact hz) (by rw [hf]) (by rw [hf]; show (0 : Int) ≤ _; decide) (by rw [hf]; show (0 : Int) ≤ _; decide) (.inl rfl) hu (by rw [hf]; show (0 : Int) + 1 ≤ _; decide) hs' (by
      rw [show (1 : Int) - 0 = 1 by decide, hb1]
      exact .inl (by rw [hp]; exact full_dead)) (Nat.le_refl _) (Nat.le_refl _))
  rw [fl_self f 0 (.inl rfl), ← pL] at R
  obtain ⟨a, b, c⟩ := chain_put (cut := -1) pE R
  obtain ⟨b1, b2⟩ := b (.inl (by decide))
  rw [← hf]
  exact ⟨by rw [rE]; decide, pE, b1, b2 b1.read.1 b1.read.2⟩
end Go.Proofs.YtebkeocpojlepaaGreatDoor

/- Plain laws of the supervisor: what is booted, seen and asked. -/
namespace Go.Proofs.YtebkeocpojlepaaGreatDoor
set_option linter.unusedVariables false
set_option linter.unusedSimpArgs false

/-- the empty mask -/
abbrev m0 : ByteArray := ⟨#[]⟩
/-- a supervisor that runs and keeps its state -/
structure Keeps (m : Nat) (L : Int) (k : Nat) (x : Su) : Prop where
  ji : JI m L k (packN x.s) x.f
  leg : legalB x.s = true
  ph : x.ph = 1
theorem Keeps.mono {m : Nat} {L : Int} {k k' : Nat} {x : Su} (h : Keeps m L k x) (hk : k ≤ k') : Keeps m L k' x := ⟨h.ji.mono hk, h.leg, h.ph⟩

theorem boot_says {m : Nat} {L : Int} {k : Nat} {s : St} {f : Fl} (h : JI m L k (packN s) f) (hs : legalB s = true) : bootV f = ⟨f, s, 0, 0, 0⟩ := by
  obtain ⟨e1, e2⟩ := h.read
  unfold bootV bootS
  rw [if_pos e1, e2, unpack_pack hs]

/-- what is written with no cut -/
theorem wr_whole {m : Nat} {L : Int} {k d : Nat} {x : Su} (h : JI m L k d x.f) (hk : (k : Int) < L) (hK : k < 1000000) {t : St} (ht : legalB t = true) (cut : Int) (mask : ByteArray) (hc : cut < 0 ∨ 6 ≤ cut) :
    wrE x t cut mask = true ∧ wrX x t cut mask = { x with f := putF x.f (packN t) cut mask, s := t } ∧ JI m L (k + 1) (packN t) (putF x.f (packN t) cut mask) := by
  obtain ⟨a, b, c, d⟩ := put_law h hk hK (pack_lt ht) cut mask
  obtain ⟨c1, c2⟩ := c hc
  have hn : ¬ planE x.f ≠ 0 := by rw [a]; simp
  refine ⟨by unfold wrE; rw [if_neg hn, c2], ?_, c1⟩
  unfold wrX; rw [if_neg hn, if_neg (by rw [c2]; simp)]
/-- what is written, cut anywhere -/
theorem wr_cut {m : Nat} {L : Int} {k d : Nat} {x : Su} (h : JI m L k d x.f) (hk : (k : Int) < L) (hK : k < 1000000) {t : St} (ht : legalB t = true) (cut : Int) (mask : ByteArray) :
    (JI m L (k + 1) d (wrX x t cut mask).f ∨ JI m L (k + 1) (packN t) (wrX x t cut mask).f) ∧ (wrE x t cut mask = true → JI m L (k + 1) (packN t) (wrX x t cut mask).f) ∧ ((cut < 0 ∨ 6 ≤ cut) → wrE x t cut mask = true) := by
  obtain ⟨a, b, c, d⟩ := put_law h hk hK (pack_lt ht) cut mask
  have hn : ¬ planE x.f ≠ 0 := by rw [a]; simp
  have hf : (wrX x t cut mask).f = putF x.f (packN t) cut mask := by
    unfold wrX; rw [if_neg hn]; split <;> rfl
  have he : wrE x t cut mask = putA x.f (packN t) cut mask := by unfold wrE; rw [if_neg hn]
  rw [hf, he]
  exact ⟨b, d, fun h => (c h).2⟩

theorem eqSt_self (s : St) : eqSt s s = true := (eqSt_iff s s).2 rfl

/-- a supervisor that boots and sees three times the same -/
def thirdX (f : Fl) (v : Int) : Su := ⟨f, bootS f, 0, v, 2⟩
def seenX (f : Fl) (v : Int) : Su := smpX (smpX (smpX (bootV f) v (-1) m0) v (-1) m0) v (-1) m0
theorem seen_third (f : Fl) (v : Int) (hv : v = 1 ∨ v = 2) : smpX (smpX (bootV f) v (-1) m0) v (-1) m0 = thirdX f v ∧ smpX (bootV f) v (-1) m0 = ⟨f, bootS f, 0, v, 1⟩ := by
  have e1 : smpX (bootV f) v (-1) m0 = ⟨f, bootS f, 0, v, 1⟩ := by
    have ha : agreeI 0 0 v = 1 := by unfold agreeI; rw [if_neg (by omega)]
    unfold smpX bootV
    rw [if_neg (show ¬ ((0 : Int) = 3) by decide)]
    show (if (0 : Int) ≠ 0 ∨ agreeI 0 0 v < 3 then votX ⟨f, bootS f, 0, 0, 0⟩ v else _) = _
    rw [ha, if_pos (.inr (by decide))]
    unfold votX
    show (⟨f, bootS f, 0, v, agreeI 0 0 v⟩ : Su) = _
    rw [ha]
  refine ⟨?_, e1⟩
  rw [e1]
  have ha : agreeI v 1 v = 2 := by unfold agreeI; rw [if_pos rfl]; rfl
  unfold smpX
  rw [if_neg (show ¬ ((0 : Int) = 3) by decide)]
  show (if (0 : Int) ≠ 0 ∨ agreeI v 1 v < 3 then votX ⟨f, bootS f, 0, v, 1⟩ v else _) = _
  rw [ha, if_pos (.inr (by decide))]
  unfold votX thirdX
  show (⟨f, bootS f, 0, v, agreeI v 1 v⟩ : Su) = _
  rw [ha]
theorem seen_eq (f : Fl) (v : Int) (hv : v = 1 ∨ v = 2) : seenX f v = if moreB (thirdX f v) v = false then { votX (thirdX f v) v with ph := 1 } else
    if wrE (votX (thirdX f v) v) (resolveS (bootS f) v) (-1) m0 then { wrX (votX (thirdX f v) v) (resolveS (bootS f) v) (-1) m0 with ph := 1 } else wrX (votX (thirdX f v) v) (resolveS (bootS f) v) (-1) m0 := by
  unfold seenX
  rw [(seen_third f v hv).1]
  have ha : agreeI v 2 v = 3 := by unfold agreeI; rw [if_pos rfl]; rfl
  unfold smpX
  rw [if_neg (show ¬ ((thirdX f v).ph = 3) from (by show ¬ ((0 : Int) = 3); decide)), if_neg (show ¬ ((thirdX f v).ph ≠ 0 ∨ agreeI (thirdX f v).vv (thirdX f v).vn v < 3) from by
    show ¬ ((0 : Int) ≠ 0 ∨ agreeI v 2 v < 3)
    rw [ha]; decide)]
  rfl

/-- what is seen of a flash that says a state: it runs, its state is resolved; what was resolved ahead is not written again -/
theorem seen_law {m : Nat} {L : Int} {k : Nat} {s : St} {f : Fl} (h : JI m L k (packN s) f) (hs : legalB s = true) (hk : (k : Int) < L) (hK : k < 1000000) (v : Int) (hv : v = 1 ∨ v = 2) :
    Keeps m L (k + 1) (seenX f v) ∧ (seenX f v).s = resolveS s v ∧ (resolveS s v = s → (seenX f v).f = f) := by
  have hb : bootS f = s := congrArg Su.s (boot_says h hs)
  have hl := resolve_legal hs v
  rw [seen_eq f v hv, hb]
  obtain ⟨r1, r2⟩ := h.read
  have hkept : keptB (thirdX f v) = true := by
    unfold keptB thirdX; rw [hb]
    show (decide (readE f = 0) && decide (packN s = (readV f).dat)) = true
    rw [r1, r2]; simp
  have hmore : moreB (thirdX f v) v = !eqSt (resolveS s v) s := by
    unfold moreB; rw [hkept]; unfold thirdX; rw [hb]; simp
  rw [hmore]
  by_cases he : resolveS s v = s
  · rw [he, eqSt_self, if_pos (show (!true) = false from rfl)]
    refine ⟨⟨?_, ?_, rfl⟩, hb, fun _ => rfl⟩
    · show JI m L (k + 1) (packN (bootS f)) f
      rw [hb]; exact h.mono (by omega)
    · show legalB (bootS f) = true
      rw [hb]; exact hs
  · have hne : eqSt (resolveS s v) s = false := by
      cases h' : eqSt (resolveS s v) s
      · rfl
      · exact absurd ((eqSt_iff _ _).1 h') he
    obtain ⟨w1, w2, w3⟩ := wr_whole (x := votX (thirdX f v) v) (show JI m L k (packN s) f from h) hk hK hl (-1) m0 (.inl (by decide))
    rw [hne, if_neg (by decide), if_pos w1, w2]
    exact ⟨⟨w3, hl, rfl⟩, rfl, fun h => absurd h he⟩

/-- a new flash, seen to stand -/
theorem stood_law {m : Nat} {L : Int} (h1 : 1 ≤ m) (h2 : m ≤ 12) (hL : 0 < L) : Keeps m L 1 (seenX ⟨fullB (24 * (m + 1)), fullB (24 * (m + 1)), 0, 0, L⟩ 1) ∧ (seenX ⟨fullB (24 * (m + 1)), fullB (24 * (m + 1)), 0, 0, L⟩ 1).s = st0 := by
  obtain ⟨a, b, c, d⟩ := new_law (m := m) (L := L) h1 h2 hL (dd := packN st0) (pack_lt legal_st0) m0
  generalize (⟨fullB (24 * (m + 1)), fullB (24 * (m + 1)), 0, 0, L⟩ : Fl) = f at *
  have hb : bootS f = st0 := by unfold bootS; rw [if_neg a]
  rw [seen_eq f 1 (.inl rfl), hb]
  have hkept : keptB (thirdX f 1) = false := by
    unfold keptB thirdX
    show (decide (readE f = 0) && _) = false
    rw [decide_eq_false a]; rfl
  have hmore : moreB (thirdX f 1) 1 = true := by unfold moreB; rw [hkept]; simp
  have hr : resolveS st0 1 = st0 := rfl
  have hn : ¬ planE f ≠ 0 := by rw [b]; simp
  have w1 : wrE (votX (thirdX f 1) 1) st0 (-1) m0 = true := by
    unfold wrE
    show (if planE f ≠ 0 then false else putA f (packN st0) (-1) m0) = true
    rw [if_neg hn, d]
  have w2 : wrX (votX (thirdX f 1) 1) st0 (-1) m0 = { votX (thirdX f 1) 1 with f := putF f (packN st0) (-1) m0, s := st0 } := by
    unfold wrX
    show (if planE f ≠ 0 then _ else if putA f (packN st0) (-1) m0 = false then _ else _) = _
    rw [if_neg hn, d, if_neg (by decide)]
    rfl
  rw [hmore, if_neg (by decide), hr, if_pos w1, w2]
  exact ⟨⟨c, legal_st0, rfl⟩, rfl⟩

/-- a command, cut anywhere -/
theorem cmd_cut {m : Nat} {L : Int} {k : Nat} {x : Su} (h : Keeps m L k x) (hk : (k : Int) < L) (hK : k < 1000000) (c : Cm) (cut : Int) (mask : ByteArray) :
    (JI m L (k + 1) (packN x.s) (cmdX x c cut mask).f ∨ (deltaE x.s c = 0 ∧ JI m L (k + 1) (packN (deltaS x.s c)) (cmdX x c cut mask).f)) ∧
    (deltaE x.s c = 0 → deltaS x.s c ≠ x.s → (cmdE x c cut mask = 0 → JI m L (k + 1) (packN (deltaS x.s c)) (cmdX x c cut mask).f) ∧ ((cut < 0 ∨ 6 ≤ cut) → cmdE x c cut mask = 0)) := by
  have hp : ¬ (x.ph = 2 ∨ x.ph = 3) := by rw [h.ph]; decide
  have hh : ¬ heldB x c = true := by unfold heldB; rw [h.ph]; simp
  by_cases hE : deltaE x.s c = 0
  · by_cases hS : deltaS x.s c = x.s
    · have e1 : cmdX x c cut mask = x := by unfold cmdX; rw [if_neg hp, if_neg hh, if_neg (by simp [hE]), if_pos ((eqSt_iff _ _).2 hS)]
      rw [e1]
      exact ⟨.inl (h.ji.mono (by omega)), fun _ hne => absurd hS hne⟩
    · have hq : ¬ eqSt (deltaS x.s c) x.s = true := fun e => hS ((eqSt_iff _ _).1 e)
      have e1 : cmdX x c cut mask = wrX x (deltaS x.s c) cut mask := by unfold cmdX; rw [if_neg hp, if_neg hh, if_neg (by simp [hE]), if_neg hq]
      have e2 : cmdE x c cut mask = if wrE x (deltaS x.s c) cut mask then 0 else 26 := by unfold cmdE; rw [if_neg hp, if_neg hh, if_neg (by simp [hE]), if_neg hq]
      obtain ⟨a, b, d⟩ := wr_cut h.ji hk hK (delta_legal h.leg c) cut mask
      rw [e1, e2]
      refine ⟨?_, fun _ _ => ⟨fun he => ?_, fun hc => by rw [if_pos (d hc)]⟩⟩
      · rcases a with a | a
        · exact .inl a
        · exact .inr ⟨hE, a⟩
      · by_cases hw : wrE x (deltaS x.s c) cut mask = true
        · exact b hw
        · rw [if_neg hw] at he; cases he
  · have e1 : cmdX x c cut mask = x := by unfold cmdX; rw [if_neg hp, if_neg hh, if_pos hE]
    rw [e1]
    exact ⟨.inl (h.ji.mono (by omega)), fun h0 => absurd h0 hE⟩
/-- a command with no cut -/
theorem cmd_whole {m : Nat} {L : Int} {k : Nat} {x : Su} (h : Keeps m L k x) (hk : (k : Int) < L) (hK : k < 1000000) (c : Cm) :
    Keeps m L (k + 1) (cmdX x c (-1) m0) ∧ (cmdX x c (-1) m0).s = deltaS x.s c ∧ cmdE x c (-1) m0 = deltaE x.s c := by
  have hp : ¬ (x.ph = 2 ∨ x.ph = 3) := by rw [h.ph]; decide
  have hh : ¬ heldB x c = true := by unfold heldB; rw [h.ph]; simp
  by_cases hE : deltaE x.s c = 0
  · by_cases hS : deltaS x.s c = x.s
    · have e1 : cmdX x c (-1) m0 = x := by unfold cmdX; rw [if_neg hp, if_neg hh, if_neg (by simp [hE]), if_pos ((eqSt_iff _ _).2 hS)]
      have e2 : cmdE x c (-1) m0 = 0 := by unfold cmdE; rw [if_neg hp, if_neg hh, if_neg (by simp [hE]), if_pos ((eqSt_iff _ _).2 hS)]
      rw [e1, e2]
      exact ⟨h.mono (by omega), hS.symm, hE.symm⟩
    · have hq : ¬ eqSt (deltaS x.s c) x.s = true := fun e => hS ((eqSt_iff _ _).1 e)
      have e1 : cmdX x c (-1) m0 = wrX x (deltaS x.s c) (-1) m0 := by unfold cmdX; rw [if_neg hp, if_neg hh, if_neg (by simp [hE]), if_neg hq]
      have e2 : cmdE x c (-1) m0 = if wrE x (deltaS x.s c) (-1) m0 then 0 else 26 := by unfold cmdE; rw [if_neg hp, if_neg hh, if_neg (by simp [hE]), if_neg hq]
      obtain ⟨a, b, d⟩ := wr_whole (x := x) h.ji hk hK (delta_legal h.leg c) (-1) m0 (.inl (by decide))
      rw [e1, e2, if_pos a, b]
      exact ⟨⟨d, delta_legal h.leg c, h.ph⟩, rfl, hE.symm⟩
  · have e1 : cmdX x c (-1) m0 = x := by unfold cmdX; rw [if_neg hp, if_neg hh, if_pos hE]
    have e2 : cmdE x c (-1) m0 = deltaE x.s c := by unfold cmdE; rw [if_neg hp, if_neg hh, if_pos hE]
    have e3 : deltaS x.s c = x.s := by unfold deltaS; rw [if_neg hE]
    rw [e1, e2, e3]
    exact ⟨h.mono (by omega), rfl, rfl⟩
end Go.Proofs.YtebkeocpojlepaaGreatDoor

/- The top's seen: three samples. -/
namespace Go.Proofs.YtebkeocpojlepaaGreatDoor
open Go.RowKit
set_option linter.unusedVariables false
set_option linter.unusedSimpArgs false

theorem unpR_St (n : Nat) : (unpS n).ok := by
  unfold unpS; split
  · exact unpR_ok n
  · exact legal_ok legal_st0
theorem bootS_ok (f : Fl) : (bootS f).ok := by
  unfold bootS; split
  · exact unpR_St _
  · exact legal_ok legal_st0
/-- the first k samples -/
def seqX (f : Fl) (v : Int) : Nat → Su
  | 0 => bootV f
  | k + 1 => smpX (seqX f v k) v (-1) m0
theorem seq_seen (f : Fl) (v : Int) : seqX f v 3 = seenX f v := rfl
theorem seq_ok (f : Fl) (hf : f.ok) (v : Int) (hv : v = 1 ∨ v = 2) (k : Nat) (hk : k < 3) : (seqX f v k).f.ok ∧ (seqX f v k).s.ok ∧ 0 ≤ (seqX f v k).vn ∧ (seqX f v k).vn ≤ 2 := by
  obtain ⟨e2, e1⟩ := seen_third f v hv
  have hb := bootS_ok f
  obtain rfl | rfl | rfl : k = 0 ∨ k = 1 ∨ k = 2 := by omega
  · exact ⟨hf, hb, by show (0 : Int) ≤ 0; decide, by show (0 : Int) ≤ 2; decide⟩
  · have e : seqX f v 1 = ⟨f, bootS f, 0, v, 1⟩ := e1
    rw [e]; exact ⟨hf, hb, by show (0 : Int) ≤ 1; decide, by show (1 : Int) ≤ 2; decide⟩
  · have e : seqX f v 2 = thirdX f v := e2
    rw [e]; exact ⟨hf, hb, by show (0 : Int) ≤ 2; decide, by show (2 : Int) ≤ 2; decide⟩


set_option maxRecDepth 100000 in
set_option maxHeartbeats 4000000 in
theorem seen_any (f : Fl) (hf : f.ok) (a s t : Nat) (v : Int) (hv : v = 1 ∨ v = 2) (hV : ∀ W, Calls Tryz.prog 47 #[saV a s t] W fun e w' => e = .returned (.int .i64 v) ∧ Below W.heap.size W w') (w : World) (hN : NoneG w) :
    Calls Tryz.prog 13 #[suV (bootV f), saV a s t] w fun e w' => e = .returned (suV (seenX f v)) ∧ Below w.heap.size w w' := by
  have hWh := whole_any
  have hS := fun (k : Nat) (hk : k < 3) (W : World) (hNW : NoneG W) => Sample_any (seqX f v k) (seq_ok f hf v hv k hk).1 (seq_ok f hf v hv k hk).2.1 a s t v hv hV (seq_ok f hf v hv k hk).2.2 (-1) m0 (by decide) W hNW
  have hSeq : ∀ k, smpX (seqX f v k) v (-1) m0 = seqX f v (k + 1) := fun k => rfl
  unfold CmdPost at hS
  have h0 : bootV f = seqX f v 0 := rfl
  have h3 : seenX f v = seqX f v 3 := rfl
  simp only [hSeq] at hS
  rw [h0, h3]
  generalize seqX f v = Q at *
  clear h0 h3 hSeq hV
  have kx := ((Blk.new w 36 (suC (Q 0))).alloc (.cells (saC a s t) 53)).alloc (.cells suZ 36)
  have ks := (Blk.new (w.alloc (.cells (suC (Q 0)) 36)) 53 (saC a s t)).alloc (.cells suZ 36)
  have ky := Blk.new ((w.alloc (.cells (suC (Q 0)) 36)).alloc (.cells (saC a s t) 53)) 36 suZ
  have B0 : Below w.heap.size w (((w.alloc (.cells (suC (Q 0)) 36)).alloc (.cells (saC a s t) 53)).alloc (.cells suZ 36)) := (((Below.refl _ w).alloc (Nat.le_refl _) _).alloc (by simp) _).alloc (by simp; omega) _
  simp only [World.size_alloc] at ks ky
  go_enter Tryz.func13, Tryz.ntmps13
  go_wp2_with fail
  generalize World.alloc (World.alloc (World.alloc w _) _) _ = W0 at *
  go_loopw [5] (fun i wr => ∃ k : Nat, k ≤ 3 ∧ i = .int .i64 k ∧ Blk wr w.heap.size 36 (suC (Q k)) ∧ Blk wr (w.heap.size + 1) 53 (saC a s t) ∧ Blk wr (w.heap.size + 1 + 1) 36 suZ ∧ Below w.heap.size w wr) (fun i _ => 3 - (intOf i).toNat)
  case atStart => exact ⟨0, by omega, rfl, kx, ks, ky, B0⟩
  case round =>
    obtain ⟨k, hk, rfl, kX, kS, kY, hbr⟩ := hrel
    by_cases hlt : k < 3
    · have hS1 := hS k hlt
      clear hS
      obtain ⟨X, hX⟩ : ∃ X, X = Q k := ⟨_, rfl⟩
      obtain ⟨Y, hY⟩ : ∃ Y, Y = Q (k + 1) := ⟨_, rfl⟩
      rw [← hX, ← hY] at hS1
      rw [← hX] at kX
      have HY := Lib.hid hY
      clear hX hY
      generalize smpE X v (-1) m0 = E at *
      have hNN : ∀ n : CalmW wr.heap.size wr, NoneG n.val := fun n => (hN.below hbr).below n.below
      have r_0 : ∀ n : CalmW wr.heap.size wr, n.val.cell? ⟨w.heap.size + 1, 0, none⟩ = some (.float .f64 a) := fun n => ((kS.below n.below kS.lt).cell 0).trans (by simp)
      have r_1 : ∀ n : CalmW wr.heap.size wr, n.val.cell? ⟨w.heap.size + 1, 1, none⟩ = some (.float .f64 s) := fun n => ((kS.below n.below kS.lt).cell 1).trans (by simp)
      have r_2 : ∀ n : CalmW wr.heap.size wr, n.val.cell? ⟨w.heap.size + 1, 2, none⟩ = some (.float .f64 t) := fun n => ((kS.below n.below kS.lt).cell 2).trans (by simp)
      have q_0 : ∀ n : CalmW wr.heap.size wr, n.val.cell? ⟨w.heap.size, 0, none⟩ = some (.string X.f.a) := fun n => ((kX.below n.below kX.lt).cell 0).trans (by simp)
      have q_1 : ∀ n : CalmW wr.heap.size wr, n.val.cell? ⟨w.heap.size, 1, none⟩ = some (.string X.f.b) := fun n => ((kX.below n.below kX.lt).cell 1).trans (by simp)
      have q_2 : ∀ n : CalmW wr.heap.size wr, n.val.cell? ⟨w.heap.size, 2, none⟩ = some (.int .i64 X.f.x) := fun n => ((kX.below n.below kX.lt).cell 2).trans (by simp)
      have q_3 : ∀ n : CalmW wr.heap.size wr, n.val.cell? ⟨w.heap.size, 3, none⟩ = some (.int .i64 X.f.y) := fun n => ((kX.below n.below kX.lt).cell 3).trans (by simp)
      have q_4 : ∀ n : CalmW wr.heap.size wr, n.val.cell? ⟨w.heap.size, 4, none⟩ = some (.int .i64 X.f.l) := fun n => ((kX.below n.below kX.lt).cell 4).trans (by simp)
      have q_5 : ∀ n : CalmW wr.heap.size wr, n.val.cell? ⟨w.heap.size, 5, none⟩ = some (.int .i64 X.s.mode) := fun n => ((kX.below n.below kX.lt).cell 5).trans (by simp)
      have q_6 : ∀ n : CalmW wr.heap.size wr, n.val.cell? ⟨w.heap.size, 6, none⟩ = some (.bool X.s.armed) := fun n => ((kX.below n.below kX.lt).cell 6).trans (by simp)
      have q_7 : ∀ n : CalmW wr.heap.size wr, n.val.cell? ⟨w.heap.size, 7, none⟩ = some (.bool X.s.home) := fun n => ((kX.below n.below kX.lt).cell 7).trans (by simp)
      have q_8 : ∀ n : CalmW wr.heap.size wr, n.val.cell? ⟨w.heap.size, 8, none⟩ = some (.int .i64 X.s.lat) := fun n => ((kX.below n.below kX.lt).cell 8).trans (by simp)
      have q_9 : ∀ n : CalmW wr.heap.size wr, n.val.cell? ⟨w.heap.size, 9, none⟩ = some (.int .i64 X.s.lon) := fun n => ((kX.below n.below kX.lt).cell 9).trans (by simp)
      have q_10 : ∀ n : CalmW wr.heap.size wr, n.val.cell? ⟨w.heap.size, 10, none⟩ = some (.int .i64 X.s.iso) := fun n => ((kX.below n.below kX.lt).cell 10).trans (by simp)
      have q_11 : ∀ n : CalmW wr.heap.size wr, n.val.cell? ⟨w.heap.size, 11, none⟩ = some (.int .i64 X.ph) := fun n => ((kX.below n.below kX.lt).cell 11).trans (by simp)
      have q_12 : ∀ n : CalmW wr.heap.size wr, n.val.cell? ⟨w.heap.size, 12, none⟩ = some (.int .i64 X.vv) := fun n => ((kX.below n.below kX.lt).cell 12).trans (by simp)
      have q_13 : ∀ n : CalmW wr.heap.size wr, n.val.cell? ⟨w.heap.size, 13, none⟩ = some (.int .i64 X.vn) := fun n => ((kX.below n.below kX.lt).cell 13).trans (by simp)
      go_wp2_with fail
      refine wp_region_calm_head wr.heap.size 5 3 #[true, true, true, true, true, false, false, false] (by kernel_rfl) (by kernel_rfl) rfl ?_
      simp only [List.take_succ_cons, List.take_zero]
      repeat (go_big_quiet_step (first | (with_reducible refine calm_of (Nat.le_refl _) (hWh _)) | (with_reducible refine calm_of (Nat.le_refl _) (hS1 _ (hNN _)))))
      refine wpQuiet_nil ?_
      intro W4 hw4
      obtain ⟨⟨W5, b4⟩, hw5⟩ := hw4
      obtain rfl : W4 = W5 := hw5
      clear q_0 q_1 q_2 q_3 q_4 q_5 q_6 q_7 q_8 q_9 q_10 q_11 q_12 q_13 r_0 r_1 r_2 hNN hS1
      have kX4 := kX.below b4 kX.lt
      have kS4 := kS.below b4 kS.lt
      have kY4 := kY.below b4 kY.lt
      have B4 := bthen hbr b4
      clear kX kS kY hbr b4
      refine wpAny_take (i := 5) rfl (by kernel_rfl) (by kernel_rfl) (by kernel_rfl) (fun _ _ _ h => h) (Or.inl ⟨by rfl, (by intro w; go_simp; with_reducible rfl)⟩) ?_
      refine wpAny_take (i := 6) rfl (by kernel_rfl) (by kernel_rfl) (by kernel_rfl) (fun _ _ _ h => h) (Or.inl ⟨by rfl, (by intro w; go_simp; with_reducible rfl)⟩) ?_
      refine wpAny_ready (rs := [7]) (by kernel_rfl) (by simp) ?_
      refine AllReady.cons rfl (fun K hK => ?_) AllReady.nil
      refine wp_store_row 36 (.tmp 2) (.tmp 15) rfl w.heap.size (suC Y) rfl rfl 36 _ kX4 (infoSu _) rfl (oneSu _) ?_
      refine hK _ _ ?_
      clear hK K
      refine wpAny_done (by kernel_rfl) ?_ _
      have kX5 := kX4.row (suC Y)
      have kS5 := kS4.rowOther w.heap.size (by omega) (suC Y)
      have kY5 := kY4.rowOther w.heap.size (by omega) (suC Y)
      have B5 := bel_row B4 w.heap.size (Nat.le_refl _) (suC Y)
      clear kX4 kS4 kY4 B4
      generalize World.setRow W4 _ _ = W6 at *
      rw [HY.out] at kX5
      go_wp2
      go_roundw
      case rel => exact ⟨k + 1, by omega, by go_num, kX5, kS5, kY5, B5⟩
      case measure => simp [intOf]; omega
    · obtain rfl : k = 3 := by omega
      clear hS
      obtain ⟨X, hX⟩ : ∃ X, X = Q 3 := ⟨_, rfl⟩
      rw [← hX] at kX
      have HX := Lib.hid hX
      clear hX
      go_wp2_with (first | (refine wpList_load_row rfl 36 (.tmp 2) rfl w.heap.size rfl 36 (suC X) (0, 0) _ kX Tryz.underlying36 rfl (infoSu _) ?_) | (refine wpList_store_row rfl 36 (.tmp 4) (.tmp 17) rfl (w.heap.size + 1 + 1) (suC X) rfl rfl 36 _ kY (infoSu _) rfl (oneSu _) ?_))
      exact bodyPost_ret (v := suV X) (results_cell_row rfl _ _ (w.heap.size + 1 + 1) 36 (suC X) (0, 0) _ rfl (kY.row _) Tryz.underlying36 rfl (infoSu _)) rfl ⟨by rw [HX.out], bel_row hbr _ (by omega) _⟩
end Go.Proofs.YtebkeocpojlepaaGreatDoor

/- The top's stood. -/
namespace Go.Proofs.YtebkeocpojlepaaGreatDoor
open Go.RowKit
set_option linter.unusedVariables false
set_option linter.unusedSimpArgs false

/-- a new flash of m slots -/
def newL (m : Nat) (L : Int) : Fl := ⟨fullB (24 * (m + 1)), fullB (24 * (m + 1)), 0, 0, L⟩
theorem newL_ok (m : Nat) (L : Int) (h2 : m ≤ 12) (h0 : 0 ≤ L) (h3 : L ≤ 1000) : (newL m L).ok :=
  ⟨i64wf 0 (by decide) (by decide), i64wf 0 (by decide) (by decide), i64wf L (by omega) (by omega), by show (fullB (24 * (m + 1))).size ≤ 500; rw [fullB_size]; omega, by show (fullB (24 * (m + 1))).size ≤ 500; rw [fullB_size]; omega⟩

set_option maxRecDepth 100000 in
set_option maxHeartbeats 4000000 in
theorem stood_any (n : Int) (m : Nat) (hn : n = (m : Int)) (h1 : 1 ≤ m) (h2 : m ≤ 12) (L : Int) (h0 : 0 ≤ L) (h3 : L ≤ 1000) (w : World) (hN : NoneG w) :
    Calls Tryz.prog 8 #[.int .i64 n, .int .i64 L] w fun e w' => e = .returned (suV (seenX (newL m L) 1)) ∧ Below w.heap.size w w' := by
  have hok := newL_ok m L h2 h0 h3
  have hS := r05Size_any n (by omega) (by omega)
  have hF : newF (24 * n + 24) L = newL m L := by
    unfold newF newL
    rw [if_neg (by omega), show (24 * n + 24).toNat = 24 * (m + 1) by omega]
  have hNw := New_any (24 * n + 24) L
  rw [hF] at hNw
  have hB := Boot_any (newL m L) hok
  have hSn := fun W => seen_any (newL m L) hok 0 0 0 1 (.inl rfl) Vote_zero W
  generalize bootV (newL m L) = X at *
  generalize seenX (newL m L) 1 = Y at *
  generalize newL m L = f at *
  clear hF hn h1 h2 h0 h3 hok
  have ky := Blk.new w 36 suZ
  have B0 : Below w.heap.size w (w.alloc (.cells suZ 36)) := (Below.refl _ w).alloc (Nat.le_refl _) _
  go_enter Tryz.func8, Tryz.ntmps8
  go_wp2_with fail
  generalize World.alloc w _ = W0 at *
  have hN0 := hN.below B0
  with_reducible refine (hS _).mono ?_
  rintro e w1 ⟨rfl, rfl⟩
  go_wp2_with fail
  with_reducible refine (hNw _).mono ?_
  rintro e w2 ⟨rfl, q2⟩
  have ky2 := ky.below q2 ky.lt
  have B2 := bthen B0 q2
  have hN2 := hN.below B2
  clear ky q2 B0
  go_wp2_with fail
  with_reducible refine (hB _ hN2).mono ?_
  rintro e w3 ⟨rfl, q3⟩
  have ky3 := ky2.below q3 ky2.lt
  have B3 := bthen B2 q3
  clear ky2 q3 B2
  have hN3 := hN.below B3
  go_wp2_with (first | (with_reducible refine (hSn _ (hN.below (by assumption))).mono ?_; rintro e w4 ⟨rfl, q4⟩; have ky4 := ky3.below q4 ky3.lt; have B4 := bthen B3 q4) | (refine wpList_store_row rfl 36 (.tmp 4) (.tmp 11) rfl w.heap.size (suC Y) rfl rfl 36 _ ky4 (infoSu _) rfl (oneSu _) ?_))
  exact bodyPost_ret (v := suV Y) (results_cell_row rfl _ _ w.heap.size 36 (suC Y) (0, 0) _ rfl (ky4.row _) Tryz.underlying36 rfl (infoSu _)) rfl ⟨rfl, bel_row B4 _ (Nat.le_refl _) _⟩
end Go.Proofs.YtebkeocpojlepaaGreatDoor

/- The top's asked: commands, one behind the other. -/
namespace Go.Proofs.YtebkeocpojlepaaGreatDoor
open Go.RowKit
set_option linter.unusedVariables false
set_option linter.unusedSimpArgs false

/-- a slice value is these commands -/
def CmsA (w : World) (b o : Nat) (L : List Cm) : Prop := ∀ (i : Nat) (h : i < L.length),
  w.cell? ⟨b, o + i * 4, none⟩ = some (.int .i64 L[i].kind) ∧ w.cell? ⟨b, o + i * 4 + 1, none⟩ = some (.int .i64 L[i].n) ∧ w.cell? ⟨b, o + i * 4 + 2, none⟩ = some (.float .f64 L[i].lat) ∧ w.cell? ⟨b, o + i * 4 + 3, none⟩ = some (.float .f64 L[i].lon)
def CmsV (w : World) (v : Value) (L : List Cm) : Prop :=
  (v = .slice none 0 0 ∧ L = []) ∨ ∃ b o cap, v = .slice (some ⟨b, o, none⟩) L.length cap ∧ CmsA w b o L
theorem CmsA.lt {w : World} {b o : Nat} {L : List Cm} (h : CmsA w b o L) (hl : 0 < L.length) : b < w.heap.size := World.block_lt_of_cell? w ⟨b, o + 0 * 4, none⟩ (h 0 hl).1
theorem CmsA.below {w w' : World} {b o : Nat} {L : List Cm} (h : CmsA w b o L) (hb : Below w.heap.size w w') : CmsA w' b o L := fun i hi => by
  have hlt := h.lt (by omega)
  obtain ⟨c0, c1, c2, c3⟩ := h i hi
  exact ⟨(hb.cell (p := ⟨b, o + i * 4, none⟩) hlt).trans c0, (hb.cell (p := ⟨b, o + i * 4 + 1, none⟩) hlt).trans c1, (hb.cell (p := ⟨b, o + i * 4 + 2, none⟩) hlt).trans c2, (hb.cell (p := ⟨b, o + i * 4 + 3, none⟩) hlt).trans c3⟩
theorem CmsV.below {w w' : World} {v : Value} {L : List Cm} (h : CmsV w v L) (hb : Below w.heap.size w w') : CmsV w' v L := by
  rcases h with h | ⟨b, o, cap, hv, hA⟩
  · exact .inl h
  · exact .inr ⟨b, o, cap, hv, hA.below hb⟩

/-- what is asked: the first k commands -/
def askX (x : Su) (l : List Cm) : Nat → Su
  | 0 => x
  | k + 1 => cmdX (askX x l k) (l.getD k ⟨0, 0, 0, 0⟩) (-1) m0
theorem wrX_ok {x : Su} (h : x.f.ok) (t : St) (cut : Int) (mask : ByteArray) : (wrX x t cut mask).f.ok := by
  unfold wrX
  split
  · exact h
  · split <;> exact putF_ok h _ _ _
theorem cmdX_ok {x : Su} (h : x.f.ok) (c : Cm) (cut : Int) (mask : ByteArray) : (cmdX x c cut mask).f.ok := by
  unfold cmdX
  repeat' split
  all_goals first | exact h | exact wrX_ok h _ _ _
theorem ask_keeps {m : Nat} {L : Int} {k : Nat} {x : Su} (h : Keeps m L k x) (hf : x.f.ok) (l : List Cm) : ∀ j : Nat, ((k + j : Nat) : Int) ≤ L → k + j < 1000000 → Keeps m L (k + j) (askX x l j) ∧ (askX x l j).f.ok
  | 0, _, _ => ⟨h, hf⟩
  | j + 1, h1, h2 => by
    obtain ⟨a, b⟩ := ask_keeps h hf l j (by omega) (by omega)
    exact ⟨(cmd_whole a (by omega) (by omega) _).1, cmdX_ok b _ _ _⟩


set_option maxRecDepth 100000 in
set_option maxHeartbeats 4000000 in
theorem asked_row (m : Nat) (L : Int) (k0 : Nat) (x : Su) (hK : Keeps m L k0 x) (hf : x.f.ok) (l : List Cm) (hl : l.length ≤ 30) (hok : ∀ c ∈ l, c.ok) (hL : ((k0 + l.length : Nat) : Int) ≤ L) (hk0 : k0 < 1000) (b o cap : Nat) (w : World) (hN : NoneG w) (hA : CmsA w b o l) :
    Calls Tryz.prog 7 #[suV x, .slice (some ⟨b, o, none⟩) l.length cap] w fun e w' => e = .returned (suV (askX x l l.length)) ∧ Below w.heap.size w w' := by
  have hWh := whole_any
  have hC : ∀ (k : Nat) (h : k < l.length) (W : World), NoneG W → Calls Tryz.prog 11 #[suV (askX x l k), cmV l[k], .agg #[.int .i64 (-1), .string ⟨#[]⟩]] W (CmdPost W (askX x l (k + 1)) (cmdE (askX x l k) l[k] (-1) m0)) := by
    intro k h W hNW
    obtain ⟨a, c⟩ := ask_keeps hK hf l k (by omega) (by omega)
    have e : askX x l (k + 1) = cmdX (askX x l k) l[k] (-1) m0 := by
      show cmdX (askX x l k) (l.getD k ⟨0, 0, 0, 0⟩) (-1) m0 = _
      rw [List.getD_eq_getElem?_getD, List.getElem?_eq_getElem h]; rfl
    rw [e]
    exact Command_any _ c (legal_iso a.leg) _ (hok _ (List.getElem_mem h)) (legal_ok (delta_legal a.leg _)) (-1) m0 (by decide) W hNW
  unfold CmdPost at hC
  clear hK hf hok hL
  have h0 : x = askX x l 0 := rfl
  rw [h0]
  generalize hQ : askX x l = Q at *
  have h0' : askX (Q 0) l l.length = Q l.length := by rw [← hQ]; rfl
  rw [h0']
  clear h0 h0' hQ
  have kx := (Blk.new w 36 (suC (Q 0))).alloc (.cells suZ 36)
  have ky := Blk.new (w.alloc (.cells (suC (Q 0)) 36)) 36 suZ
  have B0 : Below w.heap.size w ((w.alloc (.cells (suC (Q 0)) 36)).alloc (.cells suZ 36)) := ((Below.refl _ w).alloc (Nat.le_refl _) _).alloc (by simp) _
  simp only [World.size_alloc] at ky
  go_enter Tryz.func7, Tryz.ntmps7
  go_wp2_with fail
  generalize World.alloc (World.alloc w _) _ = W0 at *
  go_loopw [5] (fun i wr => ∃ k : Nat, k ≤ l.length ∧ i = .int .i64 k ∧ Blk wr w.heap.size 36 (suC (Q k)) ∧ Blk wr (w.heap.size + 1) 36 suZ ∧ Below w.heap.size w wr) (fun i _ => l.length - (intOf i).toNat)
  case atStart => exact ⟨0, by omega, rfl, kx, ky, B0⟩
  case round =>
    obtain ⟨k, hk, rfl, kX, kY, hbr⟩ := hrel
    by_cases hlt : k < l.length
    · have hC1 := hC k hlt
      have hE : ∃ E, E = cmdE (Q k) l[k] (-1) m0 := ⟨_, rfl⟩
      obtain ⟨c0, c1, c2, c3⟩ := hA k hlt
      have hlw : b < w.heap.size := hA.lt (by omega)
      clear hC
      obtain ⟨X, hX⟩ : ∃ X, X = Q k := ⟨_, rfl⟩
      obtain ⟨Y, hY⟩ : ∃ Y, Y = Q (k + 1) := ⟨_, rfl⟩
      rw [← hX, ← hY] at hC1
      rw [← hX] at kX
      have HY := Lib.hid hY
      clear hX hY hE
      generalize l[k] = c at *
      generalize cmdE X c (-1) m0 = E at *
      have hNN : ∀ n : CalmW wr.heap.size wr, NoneG n.val := fun n => (hN.below hbr).below n.below
      have hlb : ∀ n : CalmW wr.heap.size wr, Below w.heap.size w n.val := fun n => hbr.trans (n.below.mono hbr.size)
      have y0 : ∀ n : CalmW wr.heap.size wr, n.val.cell? ⟨b, o + k * 4, none⟩ = some (.int .i64 c.kind) := fun n => ((hlb n).cell (p := ⟨b, o + k * 4, none⟩) hlw).trans c0
      have y1 : ∀ n : CalmW wr.heap.size wr, n.val.cell? ⟨b, o + k * 4 + 1, none⟩ = some (.int .i64 c.n) := fun n => ((hlb n).cell (p := ⟨b, o + k * 4 + 1, none⟩) hlw).trans c1
      have y2 : ∀ n : CalmW wr.heap.size wr, n.val.cell? ⟨b, o + k * 4 + 2, none⟩ = some (.float .f64 c.lat) := fun n => ((hlb n).cell (p := ⟨b, o + k * 4 + 2, none⟩) hlw).trans c2
      have y3 : ∀ n : CalmW wr.heap.size wr, n.val.cell? ⟨b, o + k * 4 + 3, none⟩ = some (.float .f64 c.lon) := fun n => ((hlb n).cell (p := ⟨b, o + k * 4 + 3, none⟩) hlw).trans c3
      have had : (⟨b, o, none⟩ : Addr).add (k * 4) = ⟨b, o + k * 4, none⟩ := by rw [addr_add]
      clear hlb c0 c1 c2 c3
      have q_0 : ∀ n : CalmW wr.heap.size wr, n.val.cell? ⟨w.heap.size, 0, none⟩ = some (.string X.f.a) := fun n => ((kX.below n.below kX.lt).cell 0).trans (by simp)
      have q_1 : ∀ n : CalmW wr.heap.size wr, n.val.cell? ⟨w.heap.size, 1, none⟩ = some (.string X.f.b) := fun n => ((kX.below n.below kX.lt).cell 1).trans (by simp)
      have q_2 : ∀ n : CalmW wr.heap.size wr, n.val.cell? ⟨w.heap.size, 2, none⟩ = some (.int .i64 X.f.x) := fun n => ((kX.below n.below kX.lt).cell 2).trans (by simp)
      have q_3 : ∀ n : CalmW wr.heap.size wr, n.val.cell? ⟨w.heap.size, 3, none⟩ = some (.int .i64 X.f.y) := fun n => ((kX.below n.below kX.lt).cell 3).trans (by simp)
      have q_4 : ∀ n : CalmW wr.heap.size wr, n.val.cell? ⟨w.heap.size, 4, none⟩ = some (.int .i64 X.f.l) := fun n => ((kX.below n.below kX.lt).cell 4).trans (by simp)
      have q_5 : ∀ n : CalmW wr.heap.size wr, n.val.cell? ⟨w.heap.size, 5, none⟩ = some (.int .i64 X.s.mode) := fun n => ((kX.below n.below kX.lt).cell 5).trans (by simp)
      have q_6 : ∀ n : CalmW wr.heap.size wr, n.val.cell? ⟨w.heap.size, 6, none⟩ = some (.bool X.s.armed) := fun n => ((kX.below n.below kX.lt).cell 6).trans (by simp)
      have q_7 : ∀ n : CalmW wr.heap.size wr, n.val.cell? ⟨w.heap.size, 7, none⟩ = some (.bool X.s.home) := fun n => ((kX.below n.below kX.lt).cell 7).trans (by simp)
      have q_8 : ∀ n : CalmW wr.heap.size wr, n.val.cell? ⟨w.heap.size, 8, none⟩ = some (.int .i64 X.s.lat) := fun n => ((kX.below n.below kX.lt).cell 8).trans (by simp)
      have q_9 : ∀ n : CalmW wr.heap.size wr, n.val.cell? ⟨w.heap.size, 9, none⟩ = some (.int .i64 X.s.lon) := fun n => ((kX.below n.below kX.lt).cell 9).trans (by simp)
      have q_10 : ∀ n : CalmW wr.heap.size wr, n.val.cell? ⟨w.heap.size, 10, none⟩ = some (.int .i64 X.s.iso) := fun n => ((kX.below n.below kX.lt).cell 10).trans (by simp)
      have q_11 : ∀ n : CalmW wr.heap.size wr, n.val.cell? ⟨w.heap.size, 11, none⟩ = some (.int .i64 X.ph) := fun n => ((kX.below n.below kX.lt).cell 11).trans (by simp)
      have q_12 : ∀ n : CalmW wr.heap.size wr, n.val.cell? ⟨w.heap.size, 12, none⟩ = some (.int .i64 X.vv) := fun n => ((kX.below n.below kX.lt).cell 12).trans (by simp)
      have q_13 : ∀ n : CalmW wr.heap.size wr, n.val.cell? ⟨w.heap.size, 13, none⟩ = some (.int .i64 X.vn) := fun n => ((kX.below n.below kX.lt).cell 13).trans (by simp)
      go_wp2_with fail
      refine wp_region_calm_head wr.heap.size 8 3 #[true, true, true, true, true, true, true, true, false, false, false] (by kernel_rfl) (by kernel_rfl) rfl ?_
      simp only [List.take_succ_cons, List.take_zero]
      repeat (go_big_quiet_step (first | (with_reducible refine calm_of (Nat.le_refl _) (hWh _)) | (with_reducible refine calm_of (Nat.le_refl _) (hC1 _ (hNN _)))))
      refine wpQuiet_nil ?_
      intro W4 hw4
      obtain ⟨⟨W5, b4⟩, hw5⟩ := hw4
      obtain rfl : W4 = W5 := hw5
      clear q_0 q_1 q_2 q_3 q_4 q_5 q_6 q_7 q_8 q_9 q_10 q_11 q_12 q_13 y0 y1 y2 y3 had hNN hC1
      have kX4 := kX.below b4 kX.lt
      have kY4 := kY.below b4 kY.lt
      have B4 := bthen hbr b4
      clear kX kY hbr b4
      refine wpAny_take (i := 8) rfl (by kernel_rfl) (by kernel_rfl) (by kernel_rfl) (fun _ _ _ h => h) (Or.inl ⟨by rfl, (by intro w; go_simp; with_reducible rfl)⟩) ?_
      refine wpAny_take (i := 9) rfl (by kernel_rfl) (by kernel_rfl) (by kernel_rfl) (fun _ _ _ h => h) (Or.inl ⟨by rfl, (by intro w; go_simp; with_reducible rfl)⟩) ?_
      refine wpAny_ready (rs := [10]) (by kernel_rfl) (by simp) ?_
      refine AllReady.cons rfl (fun K hK => ?_) AllReady.nil
      refine wp_store_row 36 (.tmp 2) (.tmp 20) rfl w.heap.size (suC Y) rfl rfl 36 _ kX4 (infoSu _) rfl (oneSu _) ?_
      refine hK _ _ ?_
      clear hK K
      refine wpAny_done (by kernel_rfl) ?_ _
      have kX5 := kX4.row (suC Y)
      have kY5 := kY4.rowOther w.heap.size (by omega) (suC Y)
      have B5 := bel_row B4 w.heap.size (Nat.le_refl _) (suC Y)
      clear kX4 kY4 B4
      generalize World.setRow W4 _ _ = W6 at *
      rw [HY.out] at kX5
      go_wp2
      go_roundw
      case rel => exact ⟨k + 1, by omega, by go_num, kX5, kY5, B5⟩
      case measure => simp [intOf]; omega
    · obtain rfl : k = l.length := by omega
      clear hC
      obtain ⟨X, hX⟩ : ∃ X, X = Q l.length := ⟨_, rfl⟩
      rw [← hX] at kX
      have HX := Lib.hid hX
      clear hX
      go_wp2_with (first | (refine wpList_load_row rfl 36 (.tmp 2) rfl w.heap.size rfl 36 (suC X) (0, 0) _ kX Tryz.underlying36 rfl (infoSu _) ?_) | (refine wpList_store_row rfl 36 (.tmp 4) (.tmp 22) rfl (w.heap.size + 1) (suC X) rfl rfl 36 _ kY (infoSu _) rfl (oneSu _) ?_))
      exact bodyPost_ret (v := suV X) (results_cell_row rfl _ _ (w.heap.size + 1) 36 (suC X) (0, 0) _ rfl (kY.row _) Tryz.underlying36 rfl (infoSu _)) rfl ⟨by rw [HX.out], bel_row hbr _ (by omega) _⟩

set_option maxRecDepth 100000 in
set_option maxHeartbeats 4000000 in
theorem asked_nil (x : Su) (w : World) :
    Calls Tryz.prog 7 #[suV x, .slice none 0 0] w fun e w' => e = .returned (suV x) ∧ Below w.heap.size w w' := by
  have kx := (Blk.new w 36 (suC x)).alloc (.cells suZ 36)
  have ky := Blk.new (w.alloc (.cells (suC x) 36)) 36 suZ
  have B0 : Below w.heap.size w ((w.alloc (.cells (suC x) 36)).alloc (.cells suZ 36)) := ((Below.refl _ w).alloc (Nat.le_refl _) _).alloc (by simp) _
  simp only [World.size_alloc] at ky
  go_enter Tryz.func7, Tryz.ntmps7
  go_wp2_with fail
  generalize World.alloc (World.alloc w _) _ = W0 at *
  go_loopw [5] (fun i wr => i = .int .i64 0 ∧ wr = W0) (fun i _ => 0)
  case atStart => exact ⟨rfl, rfl⟩
  case round =>
    obtain ⟨rfl, rfl⟩ := hrel
    go_wp2_with (first | (refine wpList_load_row rfl 36 (.tmp 2) rfl w.heap.size rfl 36 (suC x) (0, 0) _ kx Tryz.underlying36 rfl (infoSu _) ?_) | (refine wpList_store_row rfl 36 (.tmp 4) (.tmp 22) rfl (w.heap.size + 1) (suC x) rfl rfl 36 _ ky (infoSu _) rfl (oneSu _) ?_))
    exact bodyPost_ret (v := suV x) (results_cell_row rfl _ _ (w.heap.size + 1) 36 (suC x) (0, 0) _ rfl (ky.row _) Tryz.underlying36 rfl (infoSu _)) rfl ⟨rfl, bel_row B0 _ (by omega) _⟩

theorem asked_any (m : Nat) (L : Int) (k0 : Nat) (x : Su) (hK : Keeps m L k0 x) (hf : x.f.ok) (l : List Cm) (hl : l.length ≤ 30) (hok : ∀ c ∈ l, c.ok) (hL : ((k0 + l.length : Nat) : Int) ≤ L) (hk0 : k0 < 1000) (v : Value) (w : World) (hN : NoneG w) (hA : CmsV w v l) :
    Calls Tryz.prog 7 #[suV x, v] w fun e w' => e = .returned (suV (askX x l l.length)) ∧ Below w.heap.size w w' := by
  rcases hA with ⟨rfl, rfl⟩ | ⟨b, o, cap, rfl, hA⟩
  · exact asked_nil x w
  · exact asked_row m L k0 x hK hf l hl hok hL hk0 b o cap w hN hA
end Go.Proofs.YtebkeocpojlepaaGreatDoor

/- The top's shown: it answers true. -/
namespace Go.Proofs.YtebkeocpojlepaaGreatDoor
open Go.RowKit
set_option linter.unusedVariables false
set_option linter.unusedSimpArgs false

theorem smpX_ok {x : Su} (h : x.f.ok) (v cut : Int) (mask : ByteArray) : (smpX x v cut mask).f.ok := by
  unfold smpX
  repeat' split
  all_goals first | exact h | exact wrX_ok (x := votX x v) h _ _ _
theorem seenX_ok {f : Fl} (h : f.ok) (v : Int) : (seenX f v).f.ok := smpX_ok (smpX_ok (smpX_ok (x := bootV f) h v (-1) m0) v (-1) m0) v (-1) m0

/-- what is shown, in plain words -/
theorem shown_plain : ∃ x0 x1 x2 y z : Su, x0 = seenX (newL 4 9) 1 ∧ x1 = cmdX x0 ⟨2, 0, 0, 0⟩ (-1) m0 ∧ x2 = cmdX x1 ⟨1, 2, 0, 0⟩ (-1) m0 ∧ y = seenX x2.f 2 ∧ z = seenX x2.f 1 ∧
    cmdE x0 ⟨2, 0, 0, 0⟩ (-1) m0 = 0 ∧ cmdE x1 ⟨1, 2, 0, 0⟩ (-1) m0 = 0 ∧ Keeps 4 9 1 x0 ∧ Keeps 4 9 2 x1 ∧ Keeps 4 9 3 x2 ∧ x0.f.ok ∧ x1.f.ok ∧ x2.f.ok ∧
    y.ph = 1 ∧ y.s.mode = 2 ∧ y.s.armed = true ∧ z.ph = 1 ∧ z.s.armed = false ∧ z.s.mode = 0 := by
  obtain ⟨a1, a2⟩ := stood_law (m := 4) (L := 9) (by decide) (by decide) (by decide)
  have o0 : (seenX (newL 4 9) 1).f.ok := seenX_ok (newL_ok 4 9 (by decide) (by decide) (by decide)) 1
  have e0 : (⟨fullB (24 * (4 + 1)), fullB (24 * (4 + 1)), 0, 0, 9⟩ : Fl) = newL 4 9 := rfl
  rw [e0] at a1 a2
  obtain ⟨b1, b2, b3⟩ := cmd_whole a1 (by decide) (by decide) ⟨2, 0, 0, 0⟩
  have o1 := cmdX_ok o0 ⟨2, 0, 0, 0⟩ (-1) m0
  rw [a2] at b2 b3
  obtain ⟨c1, c2, c3⟩ := cmd_whole b1 (by decide) (by decide) ⟨1, 2, 0, 0⟩
  have o2 := cmdX_ok o1 ⟨1, 2, 0, 0⟩ (-1) m0
  rw [b2] at c2 c3
  obtain ⟨d1, d2, _⟩ := seen_law c1.ji c1.leg (by decide) (by decide) 2 (.inr rfl)
  obtain ⟨e1, e2, _⟩ := seen_law c1.ji c1.leg (by decide) (by decide) 1 (.inl rfl)
  rw [c2] at d2 e2
  have hy : resolveS (deltaS (deltaS st0 ⟨2, 0, 0, 0⟩) ⟨1, 2, 0, 0⟩) 2 = ⟨2, true, false, 0, 0, 0⟩ := by decide
  have hz : resolveS (deltaS (deltaS st0 ⟨2, 0, 0, 0⟩) ⟨1, 2, 0, 0⟩) 1 = ⟨0, false, false, 0, 0, 0⟩ := by decide
  rw [hy] at d2
  rw [hz] at e2
  exact ⟨_, _, _, _, _, rfl, rfl, rfl, rfl, rfl, b3.trans (by decide), c3.trans (by decide), a1, b1, c1, o0, o1, o2, d1.ph, by rw [d2], by rw [d2], e1.ph, by rw [e2], by rw [e2]⟩

set_option maxRecDepth 100000 in
set_option maxHeartbeats 8000000 in
theorem shown_any (w : World) (hN : NoneG w) : Calls Tryz.prog 6 #[] w fun e w' => e = .returned (.bool true) ∧ Below w.heap.size w w' := by
  obtain ⟨x0, x1, x2, y, z, h0, h1, h2, h3, h4, e1, e2, K0, K1, K2, o0, o1, o2, p1, p2, p3, p4, p5, p6⟩ := shown_plain
  have hWh := whole_any
  have hAir := air_any
  have hSt := stood_any 4 4 rfl (by decide) (by decide) 9 (by decide) (by decide)
  rw [← h0] at hSt
  have hC1 := Command_any x0 o0 (legal_iso K0.leg) ⟨2, 0, 0, 0⟩ ⟨by decide, by decide, by decide, by decide⟩ (legal_ok (delta_legal K0.leg _)) (-1) m0 (by decide)
  have hC2 := Command_any x1 o1 (legal_iso K1.leg) ⟨1, 2, 0, 0⟩ ⟨by decide, by decide, by decide, by decide⟩ (legal_ok (delta_legal K1.leg _)) (-1) m0 (by decide)
  unfold CmdPost at hC1 hC2
  rw [e1, ← h1] at hC1
  rw [e2, ← h2] at hC2
  have hB := Boot_any x2.f o2
  have hSy := fun W => seen_any x2.f o2 4621819117588971520 4621819117588971520 0 2 (.inr rfl) Vote_air W
  have hSz := fun W => seen_any x2.f o2 0 0 0 1 (.inl rfl) Vote_zero W
  rw [← h3] at hSy
  rw [← h4] at hSz
  clear h0 h1 h2 h3 h4 e1 e2 K0 K1 K2 o0 o1 o2
  generalize bootV x2.f = bx at *
  go_enter Tryz.func6, Tryz.ntmps6
  go_wp2_with fail
  with_reducible refine (hSt _ hN).mono ?_
  rintro e w1 ⟨rfl, B1⟩
  have k1 := Blk.new w1 36 suZ
  have B2 := B1.alloc B1.size (.cells suZ 36)
  have hg1 : w.heap.size ≤ w1.heap.size := B1.size
  go_wp2_with (refine wpList_store_row rfl 36 (.tmp 1) (.tmp 6) rfl w1.heap.size (suC x0) rfl rfl 36 _ k1 (infoSu _) rfl (oneSu _) ?_)
  have k2 := k1.row (suC x0)
  have B3 := bel_row B2 w1.heap.size hg1 (suC x0)
  clear k1 B1 B2
  generalize World.setRow _ _ _ = W3 at *
  generalize w1.heap.size = g1 at *
  go_simp
  have hNN : ∀ n : CalmW W3.heap.size W3, NoneG n.val := fun n => (hN.below B3).below n.below
  have q_0 : ∀ n : CalmW W3.heap.size W3, n.val.cell? ⟨g1, 0, none⟩ = some (.string x0.f.a) := fun n => ((k2.below n.below k2.lt).cell 0).trans (by simp)
  have q_1 : ∀ n : CalmW W3.heap.size W3, n.val.cell? ⟨g1, 1, none⟩ = some (.string x0.f.b) := fun n => ((k2.below n.below k2.lt).cell 1).trans (by simp)
  have q_2 : ∀ n : CalmW W3.heap.size W3, n.val.cell? ⟨g1, 2, none⟩ = some (.int .i64 x0.f.x) := fun n => ((k2.below n.below k2.lt).cell 2).trans (by simp)
  have q_3 : ∀ n : CalmW W3.heap.size W3, n.val.cell? ⟨g1, 3, none⟩ = some (.int .i64 x0.f.y) := fun n => ((k2.below n.below k2.lt).cell 3).trans (by simp)
  have q_4 : ∀ n : CalmW W3.heap.size W3, n.val.cell? ⟨g1, 4, none⟩ = some (.int .i64 x0.f.l) := fun n => ((k2.below n.below k2.lt).cell 4).trans (by simp)
  have q_5 : ∀ n : CalmW W3.heap.size W3, n.val.cell? ⟨g1, 5, none⟩ = some (.int .i64 x0.s.mode) := fun n => ((k2.below n.below k2.lt).cell 5).trans (by simp)
  have q_6 : ∀ n : CalmW W3.heap.size W3, n.val.cell? ⟨g1, 6, none⟩ = some (.bool x0.s.armed) := fun n => ((k2.below n.below k2.lt).cell 6).trans (by simp)
  have q_7 : ∀ n : CalmW W3.heap.size W3, n.val.cell? ⟨g1, 7, none⟩ = some (.bool x0.s.home) := fun n => ((k2.below n.below k2.lt).cell 7).trans (by simp)
  have q_8 : ∀ n : CalmW W3.heap.size W3, n.val.cell? ⟨g1, 8, none⟩ = some (.int .i64 x0.s.lat) := fun n => ((k2.below n.below k2.lt).cell 8).trans (by simp)
  have q_9 : ∀ n : CalmW W3.heap.size W3, n.val.cell? ⟨g1, 9, none⟩ = some (.int .i64 x0.s.lon) := fun n => ((k2.below n.below k2.lt).cell 9).trans (by simp)
  have q_10 : ∀ n : CalmW W3.heap.size W3, n.val.cell? ⟨g1, 10, none⟩ = some (.int .i64 x0.s.iso) := fun n => ((k2.below n.below k2.lt).cell 10).trans (by simp)
  have q_11 : ∀ n : CalmW W3.heap.size W3, n.val.cell? ⟨g1, 11, none⟩ = some (.int .i64 x0.ph) := fun n => ((k2.below n.below k2.lt).cell 11).trans (by simp)
  have q_12 : ∀ n : CalmW W3.heap.size W3, n.val.cell? ⟨g1, 12, none⟩ = some (.int .i64 x0.vv) := fun n => ((k2.below n.below k2.lt).cell 12).trans (by simp)
  have q_13 : ∀ n : CalmW W3.heap.size W3, n.val.cell? ⟨g1, 13, none⟩ = some (.int .i64 x0.vn) := fun n => ((k2.below n.below k2.lt).cell 13).trans (by simp)
  refine wp_region_calm_head W3.heap.size 5 4 #[true, true, true, true, true, false, false, false, false] (by kernel_rfl) (by kernel_rfl) rfl ?_
  simp only [List.take_succ_cons, List.take_zero]
  repeat (go_big_quiet_step (first | (with_reducible refine calm_of (Nat.le_refl _) (hWh _)) | (with_reducible refine calm_of (Nat.le_refl _) (hC1 _ (hNN _)))))
  refine wpQuiet_nil ?_
  intro W4 hw4
  obtain ⟨⟨W5, b4⟩, hw5⟩ := hw4
  obtain rfl : W4 = W5 := hw5
  clear q_0 q_1 q_2 q_3 q_4 q_5 q_6 q_7 q_8 q_9 q_10 q_11 q_12 q_13 hNN
  have k3 := k2.below b4 k2.lt
  have B4 := bthen B3 b4
  clear k2 b4 B3
  refine wpAny_take (i := 5) rfl (by kernel_rfl) (by kernel_rfl) (by kernel_rfl) (fun _ _ _ h => h) (Or.inl ⟨by rfl, (by intro w; go_simp; with_reducible rfl)⟩) ?_
  refine wpAny_take (i := 6) rfl (by kernel_rfl) (by kernel_rfl) (by kernel_rfl) (fun _ _ _ h => h) (Or.inl ⟨by rfl, (by intro w; go_simp; with_reducible rfl)⟩) ?_
  refine wpAny_ready (rs := [7]) (by kernel_rfl) (by simp) ?_
  refine AllReady.cons rfl (fun K hK => ?_) AllReady.nil
  refine wp_store_row 36 (.tmp 1) (.tmp 12) rfl g1 (suC x1) rfl rfl 36 _ k3 (infoSu _) rfl (oneSu _) ?_
  refine hK _ _ ?_
  clear hK K
  refine wpAny_take (i := 8) rfl (by kernel_rfl) (by kernel_rfl) (by kernel_rfl) (fun _ _ _ h => h) (Or.inl ⟨by rfl, (by intro w; go_simp; with_reducible rfl)⟩) ?_
  refine wpAny_done (by kernel_rfl) ?_ _
  have k5 := k3.row (suC x1)
  have B5 := bel_row B4 g1 hg1 (suC x1)
  clear k3 B4
  generalize World.setRow W4 _ _ = W6 at *
  go_wp2_with fail
  go_simp
  have hNN : ∀ n : CalmW W6.heap.size W6, NoneG n.val := fun n => (hN.below B5).below n.below
  have q_0 : ∀ n : CalmW W6.heap.size W6, n.val.cell? ⟨g1, 0, none⟩ = some (.string x1.f.a) := fun n => ((k5.below n.below k5.lt).cell 0).trans (by simp)
  have q_1 : ∀ n : CalmW W6.heap.size W6, n.val.cell? ⟨g1, 1, none⟩ = some (.string x1.f.b) := fun n => ((k5.below n.below k5.lt).cell 1).trans (by simp)
  have q_2 : ∀ n : CalmW W6.heap.size W6, n.val.cell? ⟨g1, 2, none⟩ = some (.int .i64 x1.f.x) := fun n => ((k5.below n.below k5.lt).cell 2).trans (by simp)
  have q_3 : ∀ n : CalmW W6.heap.size W6, n.val.cell? ⟨g1, 3, none⟩ = some (.int .i64 x1.f.y) := fun n => ((k5.below n.below k5.lt).cell 3).trans (by simp)
  have q_4 : ∀ n : CalmW W6.heap.size W6, n.val.cell? ⟨g1, 4, none⟩ = some (.int .i64 x1.f.l) := fun n => ((k5.below n.below k5.lt).cell 4).trans (by simp)
  have q_5 : ∀ n : CalmW W6.heap.size W6, n.val.cell? ⟨g1, 5, none⟩ = some (.int .i64 x1.s.mode) := fun n => ((k5.below n.below k5.lt).cell 5).trans (by simp)
  have q_6 : ∀ n : CalmW W6.heap.size W6, n.val.cell? ⟨g1, 6, none⟩ = some (.bool x1.s.armed) := fun n => ((k5.below n.below k5.lt).cell 6).trans (by simp)
  have q_7 : ∀ n : CalmW W6.heap.size W6, n.val.cell? ⟨g1, 7, none⟩ = some (.bool x1.s.home) := fun n => ((k5.below n.below k5.lt).cell 7).trans (by simp)
  have q_8 : ∀ n : CalmW W6.heap.size W6, n.val.cell? ⟨g1, 8, none⟩ = some (.int .i64 x1.s.lat) := fun n => ((k5.below n.below k5.lt).cell 8).trans (by simp)
  have q_9 : ∀ n : CalmW W6.heap.size W6, n.val.cell? ⟨g1, 9, none⟩ = some (.int .i64 x1.s.lon) := fun n => ((k5.below n.below k5.lt).cell 9).trans (by simp)
  have q_10 : ∀ n : CalmW W6.heap.size W6, n.val.cell? ⟨g1, 10, none⟩ = some (.int .i64 x1.s.iso) := fun n => ((k5.below n.below k5.lt).cell 10).trans (by simp)
  have q_11 : ∀ n : CalmW W6.heap.size W6, n.val.cell? ⟨g1, 11, none⟩ = some (.int .i64 x1.ph) := fun n => ((k5.below n.below k5.lt).cell 11).trans (by simp)
  have q_12 : ∀ n : CalmW W6.heap.size W6, n.val.cell? ⟨g1, 12, none⟩ = some (.int .i64 x1.vv) := fun n => ((k5.below n.below k5.lt).cell 12).trans (by simp)
  have q_13 : ∀ n : CalmW W6.heap.size W6, n.val.cell? ⟨g1, 13, none⟩ = some (.int .i64 x1.vn) := fun n => ((k5.below n.below k5.lt).cell 13).trans (by simp)
  refine wp_region_calm_head W6.heap.size 5 4 #[true, true, true, true, true, false, false, false, false] (by kernel_rfl) (by kernel_rfl) rfl ?_
  simp only [List.take_succ_cons, List.take_zero]
  repeat (go_big_quiet_step (first | (with_reducible refine calm_of (Nat.le_refl _) (hWh _)) | (with_reducible refine calm_of (Nat.le_refl _) (hC2 _ (hNN _)))))
  refine wpQuiet_nil ?_
  intro W4 hw4
  obtain ⟨⟨W5, b4⟩, hw5⟩ := hw4
  obtain rfl : W4 = W5 := hw5
  clear q_0 q_1 q_2 q_3 q_4 q_5 q_6 q_7 q_8 q_9 q_10 q_11 q_12 q_13 hNN
  have k7 := k5.below b4 k5.lt
  have B7 := bthen B5 b4
  clear k5 b4 B5
  refine wpAny_take (i := 5) rfl (by kernel_rfl) (by kernel_rfl) (by kernel_rfl) (fun _ _ _ h => h) (Or.inl ⟨by rfl, (by intro w; go_simp; with_reducible rfl)⟩) ?_
  refine wpAny_take (i := 6) rfl (by kernel_rfl) (by kernel_rfl) (by kernel_rfl) (fun _ _ _ h => h) (Or.inl ⟨by rfl, (by intro w; go_simp; with_reducible rfl)⟩) ?_
  refine wpAny_ready (rs := [7]) (by kernel_rfl) (by simp) ?_
  refine AllReady.cons rfl (fun K hK => ?_) AllReady.nil
  refine wp_store_row 36 (.tmp 1) (.tmp 19) rfl g1 (suC x2) rfl rfl 36 _ k7 (infoSu _) rfl (oneSu _) ?_
  refine hK _ _ ?_
  clear hK K
  refine wpAny_take (i := 8) rfl (by kernel_rfl) (by kernel_rfl) (by kernel_rfl) (fun _ _ _ h => h) (Or.inl ⟨by rfl, (by intro w; go_simp; with_reducible rfl)⟩) ?_
  refine wpAny_done (by kernel_rfl) ?_ _
  have k8 := k7.row (suC x2)
  have B8 := bel_row B7 g1 hg1 (suC x2)
  clear k7 B7
  generalize World.setRow W4 _ _ = W8 at *
  have x_0 := k8.cell 0
  have x_1 := k8.cell 1
  have x_2 := k8.cell 2
  have x_3 := k8.cell 3
  have x_4 := k8.cell 4
  simp at x_0 x_1 x_2 x_3 x_4
  go_wp2_with fail
  with_reducible refine (hB _ (hN.below B8)).mono ?_
  rintro e w9 ⟨rfl, q9⟩
  have k9 := k8.below q9 k8.lt
  have B9 := bthen B8 q9
  clear q9 k8 B8 x_0 x_1 x_2 x_3 x_4
  go_wp2_with fail
  with_reducible refine (hAir _).mono ?_
  rintro e wA ⟨rfl, qA⟩
  have kA := k9.below qA k9.lt
  have BA := bthen B9 qA
  clear qA k9 B9
  go_wp2_with fail
  with_reducible refine (hSy _ (hN.below BA)).mono ?_
  rintro e wB ⟨rfl, qB⟩
  have kB := (kA.below qB kA.lt).alloc (.cells suZ 36)
  have BB := (bthen BA qB).alloc (bthen BA qB).size (.cells suZ 36)
  have kY := Blk.new wB 36 suZ
  have hgB : w.heap.size ≤ wB.heap.size := (bthen BA qB).size
  have hg4 : g1 < wB.heap.size := Nat.lt_of_lt_of_le kA.lt qB.size
  clear qB kA BA
  go_wp2_with (refine wpList_store_row rfl 36 (.tmp 4) (.tmp 25) rfl wB.heap.size (suC y) rfl rfl 36 _ kY (infoSu _) rfl (oneSu _) ?_; have kC := kB.rowOther wB.heap.size (by omega) (suC y); have kY2 := kY.row (suC y); have BC := bel_row BB wB.heap.size hgB (suC y); clear kB kY BB; generalize World.setRow _ _ _ = WC at *; generalize wB.heap.size = g4 at *; have x_0 := kC.cell 0; have x_1 := kC.cell 1; have x_2 := kC.cell 2; have x_3 := kC.cell 3; have x_4 := kC.cell 4; simp at x_0 x_1 x_2 x_3 x_4)
  with_reducible refine (hB _ (hN.below BC)).mono ?_
  rintro e wD ⟨rfl, qD⟩
  have kY3 := kY2.below qD kY2.lt
  have BD := bthen BC qD
  clear qD kC kY2 BC x_0 x_1 x_2 x_3 x_4
  go_wp2_with fail
  with_reducible refine (hSz _ (hN.below BD)).mono ?_
  rintro e wE ⟨rfl, qE⟩
  have kYE := (kY3.below qE kY3.lt).alloc (.cells suZ 36)
  have BE := (bthen BD qE).alloc (bthen BD qE).size (.cells suZ 36)
  have kZ := Blk.new wE 36 suZ
  have hgE : w.heap.size ≤ wE.heap.size := (bthen BD qE).size
  have hg5 : g4 < wE.heap.size := Nat.lt_of_lt_of_le kY3.lt qE.size
  clear qE kY3 BD
  go_wp2_with (refine wpList_store_row rfl 36 (.tmp 5) (.tmp 30) rfl wE.heap.size (suC z) rfl rfl 36 _ kZ (infoSu _) rfl (oneSu _) ?_; have kYF := kYE.rowOther wE.heap.size (by omega) (suC z); have kZ2 := kZ.row (suC z); have BF := bel_row BE wE.heap.size hgE (suC z); clear kYE kZ BE; generalize World.setRow _ _ _ = WF at *; generalize wE.heap.size = g5 at *; have y_5 := kYF.cell 5; have y_6 := kYF.cell 6; have y_11 := kYF.cell 11; have z_5 := kZ2.cell 5; have z_6 := kZ2.cell 6; have z_11 := kZ2.cell 11; simp at y_5 y_6 y_11 z_5 z_6 z_11; rw [p2] at y_5; rw [p3] at y_6; rw [p1] at y_11; rw [p6] at z_5; rw [p5] at z_6; rw [p4] at z_11; clear p1 p2 p3 p4 p5 p6)
  go_ret
  exact ⟨rfl, BF⟩
end Go.Proofs.YtebkeocpojlepaaGreatDoor

/- The walk of TopArmed. -/
namespace Go.Proofs.YtebkeocpojlepaaGreatDoor
open Go.RowKit
set_option linter.unusedVariables false
set_option linter.unusedSimpArgs false

theorem eq_fl (f : Fl) (w : World) : (Op.equal 30 (flV f) (flV f)).run Tryz.prog w = .ok true w := by
  obtain ⟨a, b, x, y, l⟩ := f
  have h := run_equalIn_struct (P := Tryz.prog) w 9999 30 (flC ⟨a, b, x, y, l⟩) (flC ⟨a, b, x, y, l⟩) (by kernel_rfl) (by kernel_rfl)
  have e : (Op.equal 30 (flV ⟨a, b, x, y, l⟩) (flV ⟨a, b, x, y, l⟩)) = Op.equalIn (9999 + 1) 30 (.agg (flC ⟨a, b, x, y, l⟩)) (.agg (flC ⟨a, b, x, y, l⟩)) := rfl
  rw [e, h]
  have hi : ∀ (a b : Int) (w : World), (Op.equalIn 9999 3 (.int .i64 a) (.int .i64 b)).run Tryz.prog w = .ok (a == b) w := fun a b w => run_equalIn_int w 9998 3 .i64 .i64 a b Tryz.underlying3
  simp [Program.fieldsOf, Tryz.underlying30, Op.eqFields, go_sem, hi, eq_strs, eq_ints, Tryz.underlying3, Result.andThen]
theorem run_eq_fl (f : Fl) (w : World) : (binOp .eql 30 (flV f) (flV f)).run Tryz.prog w = .ok (.bool true) w := by
  have h := eq_fl f w
  simp only [binOp, Sem.run_bind, h, Result.andThen]
  rfl

/-- what is asked of a new flash -/
theorem start_plain (q : Nat) (hq : q ≤ 11) (L : Int) (hL : 31 ≤ L) (hL2 : L ≤ 1000) (l : List Cm) (hl : l.length ≤ 30) :
    Keeps (q + 1) L 1 (seenX (newL (q + 1) L) 1) ∧ (seenX (newL (q + 1) L) 1).f.ok ∧ Keeps (q + 1) L 31 (askX (seenX (newL (q + 1) L) 1) l l.length) ∧ (askX (seenX (newL (q + 1) L) 1) l l.length).f.ok := by
  have a := (stood_law (m := q + 1) (L := L) (by omega) (by omega) (by omega)).1
  have o := seenX_ok (newL_ok (q + 1) L (by omega) (by omega) hL2) 1
  obtain ⟨b, c⟩ := ask_keeps a o l l.length (by omega) (by omega)
  exact ⟨a, o, b.mono (by omega), c⟩

/-- one restart of a craft, seen to fly -/
theorem flies_plain {m k : Nat} {L : Int} {X : Su} (h : Keeps m L k X) (hk : (k : Int) < L) (hK : k < 1000000) :
    Keeps m L (k + 1) (seenX X.f 2) ∧ (seenX X.f 2).s = resolveS X.s 2 ∧ (seenX X.f 2).s.armed = true ∧ flyB (seenX X.f 2).s.mode = true ∧ (seenX X.f 2).ph = 1 ∧ (X.s.armed = true → fitsB X.s = true → eqSt (seenX X.f 2).s X.s = true) := by
  obtain ⟨a, b, c⟩ := seen_law h.ji h.leg hk hK 2 (.inr rfl)
  refine ⟨a, b, by rw [b]; rfl, ?_, a.ph, fun ha hf => ?_⟩
  · rw [b]; exact (safe_rng h.leg).2.2
  · rw [b, resolve_fits ha hf]; exact eqSt_self _
/-- two restarts, seen to stand -/
theorem stands_plain {m k : Nat} {L : Int} {X : Su} (h : Keeps m L k X) (hk : (k : Int) + 1 < L) (hK : k < 1000) :
    (seenX X.f 1).s.armed = false ∧ (seenX X.f 1).s.mode = 0 ∧ (seenX X.f 1).ph = 1 ∧ (seenX (seenX X.f 1).f 1).s = (seenX X.f 1).s ∧ (seenX (seenX X.f 1).f 1).f = (seenX X.f 1).f := by
  obtain ⟨a, b, c⟩ := seen_law h.ji h.leg (by omega) (by omega) 1 (.inl rfl)
  have hr : resolveS (seenX X.f 1).s 1 = (seenX X.f 1).s := by rw [b]; rfl
  obtain ⟨d, e, f⟩ := seen_law a.ji a.leg (by omega) (by omega) 1 (.inl rfl)
  exact ⟨by rw [b]; rfl, by rw [b]; rfl, a.ph, e.trans hr, f hr⟩

set_option maxRecDepth 100000 in
set_option maxHeartbeats 8000000 in
theorem TopArmed_walk (n t : Int) (v : Value) (l : List Cm) (hn : 0 ≤ n ∧ n < 256) (ht : 0 ≤ t ∧ t < 256) (hok : ∀ c ∈ l, c.ok) (hln : l.length ≤ maxLen) (w : World) (hN : NoneG w) (hA : CmsV w v l) :
    Calls Tryz.prog 5 #[.int .u8 n, .int .u8 t, v] w fun e w' => e = .returned (.bool true) ∧ Below w.heap.size w w' := by
  obtain ⟨vp, vc, hvv⟩ : ∃ vp vc, v = .slice vp l.length vc := by
    rcases hA with ⟨rfl, rfl⟩ | ⟨b, o, cap, rfl, _⟩
    · exact ⟨none, 0, rfl⟩
    · exact ⟨_, _, rfl⟩
  have hSh := shown_any
  by_cases hl : 30 < l.length
  · subst hvv
    go_enter Tryz.func5, Tryz.ntmps5
    go_wp2_with fail
    with_reducible refine (hSh _ hN).mono ?_
    rintro e w1 ⟨rfl, B1⟩
    go_wp2
    go_ret
    exact ⟨rfl, B1⟩
  · obtain ⟨q, hq⟩ : ∃ q : Nat, n.tmod 12 = (q : Int) := ⟨(n.tmod 12).toNat, by rw [Int.tmod_eq_emod_of_nonneg (by omega)]; omega⟩
    have hq11 : q ≤ 11 := by rw [Int.tmod_eq_emod_of_nonneg (by omega)] at hq; omega
    obtain ⟨T, hT⟩ : ∃ T : Nat, t.tmod 6 = (T : Int) := ⟨(t.tmod 6).toNat, by rw [Int.tmod_eq_emod_of_nonneg (by omega)]; omega⟩
    have hT5 : T ≤ 5 := by rw [Int.tmod_eq_emod_of_nonneg (by omega)] at hT; omega
    have hSt := stood_any (1 + (q : Int)) (q + 1) (by omega) (by omega) (by omega) 100 (by decide) (by decide)
    obtain ⟨K0, o0, K1, o1⟩ := start_plain q hq11 100 (by decide) (by decide) l (by omega)
    have hAs := fun W hNW hAW => asked_any (q + 1) 100 1 _ K0 o0 l (by omega) hok (by omega) (by decide) v W hNW hAW
    generalize seenX (newL (q + 1) 100) 1 = x0 at *
    generalize askX x0 l l.length = X0 at *
    have hAir := air_any
    have d1 : decide (30 < l.length) = false := by simpa using hl
    have d2 : decide ((30 : Int) < (l.length : Int)) = false := by simp; omega
    have hwr : IntKind.i64.wrap (1 + (q : Int)) = 1 + (q : Int) := wrap_small _ (by omega) (by omega)
    clear K0 o0
    subst hvv
    go_enter Tryz.func5, Tryz.ntmps5
    go_wp2_with fail
    with_reducible refine (hSh _ hN).mono ?_
    rintro e w1 ⟨rfl, B1⟩
    go_wp2_with fail
    with_reducible refine (hSt _ (hN.below B1)).mono ?_
    rintro e w2 ⟨rfl, q2⟩
    have B2 := bthen B1 q2
    clear q2 B1
    go_wp2_with fail
    with_reducible refine (hAs _ (hN.below B2) (hA.below B2)).mono ?_
    rintro e w3 ⟨rfl, q3⟩
    have B3 := (bthen B2 q3).alloc (bthen B2 q3).size (.cells suZ 36)
    have k3 := Blk.new w3 36 suZ
    have hg7 : w.heap.size ≤ w3.heap.size := (bthen B2 q3).size
    clear q3 B2
    go_wp2_with (refine wpList_store_row rfl 36 (.tmp 7) (.tmp 27) rfl w3.heap.size (suC X0) rfl rfl 36 _ k3 (infoSu _) rfl (oneSu _) ?_; have k4 := k3.row (suC X0); have B4 := bel_row B3 w3.heap.size hg7 (suC X0); clear k3 B3; generalize World.setRow _ _ _ = W4 at *; generalize w3.heap.size = g7 at *; have x_5 := k4.cell 5; have x_6 := k4.cell 6; have x_7 := k4.cell 7; have x_8 := k4.cell 8; have x_9 := k4.cell 9; have x_10 := k4.cell 10; simp at x_5 x_6 x_7 x_8 x_9 x_10)
    have kX := k4.alloc (.cells (stC X0.s) 32)
    have kS := Blk.new W4 32 (stC X0.s)
    have BX := B4.alloc B4.size (.cells (stC X0.s) 32)
    have hg9 : g7 < W4.heap.size := k4.lt
    have hg9w : w.heap.size ≤ W4.heap.size := B4.size
    clear x_5 x_6 x_7 x_8 x_9 x_10 k4 B4 hSt hAs
    generalize W4.alloc _ = W5 at *
    generalize W4.heap.size = g9 at *
    have HM := Lib.hid K1
    clear K1
    go_loopw [8, 10] (fun b i wr => ∃ (k : Nat) (X : Su) (B : Bool), k ≤ T ∧ i = .int .i64 k ∧ b = .bool B ∧ (B = true → X.s.armed = true) ∧ Keeps (q + 1) 100 (31 + k) X ∧ X.f.ok ∧ Blk wr g7 36 (suC X) ∧ Blk wr g9 32 (stC X.s) ∧ Below w.heap.size w wr) (fun _ i _ => T - (intOf i).toNat)
    case atStart => exact ⟨0, X0, X0.s.armed, by omega, rfl, rfl, id, HM.out, o1, kX, kS, BX⟩
    case round =>
      obtain ⟨k, X, B, hk, rfl, rfl, hBa, hK, hf, kX, kS, hbr⟩ := hrel
      by_cases hlt : k < T
      · have hB := Boot_any X.f hf
        have hSy := fun W => seen_any X.f hf 4621819117588971520 4621819117588971520 0 2 (.inr rfl) Vote_air W
        obtain ⟨c1, c2, c3, c4, c5, c6⟩ := flies_plain hK (by omega) (by omega)
        have hf' := seenX_ok hf 2
        have hFl := r15Flying (seenX X.f 2).s.mode
        rw [c4] at hFl
        have hIts := its_any X.s
        have hFit := Fits_any X.s (legal_ok hK.leg)
        have hNe := run_ne_st (seenX X.f 2).s X.s
        generalize bootV X.f = bx at *
        generalize seenX X.f 2 = Y at *
        obtain ⟨yf, ⟨ym, ya, yh, yla, ylo, yi⟩, yp, yv, yn⟩ := Y
        obtain rfl : ya = true := c3
        obtain rfl : yp = 1 := c5
        dsimp only at hFl hNe hSy
        have HC1 := Lib.hid c1
        have HBa := Lib.hid hBa
        have HC6 := Lib.hid c6
        clear hBa hK c1 c2 c4 c6
        have x_0 := kX.cell 0
        have x_1 := kX.cell 1
        have x_2 := kX.cell 2
        have x_3 := kX.cell 3
        have x_4 := kX.cell 4
        simp at x_0 x_1 x_2 x_3 x_4
        go_wp2_with fail
        with_reducible refine (hB _ (hN.below hbr)).mono ?_
        rintro e w9 ⟨rfl, q9⟩
        have kX9 := kX.below q9 kX.lt
        have kS9 := kS.below q9 kS.lt
        have B9 := bthen hbr q9
        clear q9 kX kS hbr x_0 x_1 x_2 x_3 x_4
        go_wp2_with fail
        with_reducible refine (hAir _).mono ?_
        rintro e wA ⟨rfl, qA⟩
        have kXA := kX9.below qA kX9.lt
        have kSA := kS9.below qA kS9.lt
        have BA := bthen B9 qA
        clear qA kX9 kS9 B9
        go_wp2_with fail
        with_reducible refine (hSy _ (hN.below BA)).mono ?_
        rintro e wB ⟨rfl, qB⟩
        have kXB := kXA.below qB kXA.lt
        have kSB := kSA.below qB kSA.lt
        have BB := bthen BA qB
        clear qB kXA kSA BA
        cases B
        case false =>
          clear hNe hFit hIts
          go_wp2_with (first | (refine wpList_store_row rfl 36 (.tmp 7) (.tmp 44) rfl g7 (suC (⟨yf, ⟨ym, true, yh, yla, ylo, yi⟩, 1, yv, yn⟩ : Su)) rfl rfl 36 _ kXB (infoSu _) rfl (oneSu _) ?_; have kY := kXB.row (suC (⟨yf, ⟨ym, true, yh, yla, ylo, yi⟩, 1, yv, yn⟩ : Su)); have kSC := kSB.rowOther g7 (by omega) (suC (⟨yf, ⟨ym, true, yh, yla, ylo, yi⟩, 1, yv, yn⟩ : Su)); have BC := bel_row BB g7 hg7 (suC (⟨yf, ⟨ym, true, yh, yla, ylo, yi⟩, 1, yv, yn⟩ : Su)); clear kXB kSB BB; generalize World.setRow _ _ _ = WC at *; have y_5 := kY.cell 5; have y_6 := kY.cell 6; have y_7 := kY.cell 7; have y_8 := kY.cell 8; have y_9 := kY.cell 9; have y_10 := kY.cell 10; have y_11 := kY.cell 11; have s_0 := kSC.cell 0; have s_1 := kSC.cell 1; have s_2 := kSC.cell 2; have s_3 := kSC.cell 3; have s_4 := kSC.cell 4; have s_5 := kSC.cell 5; simp at y_5 y_6 y_7 y_8 y_9 y_10 y_11 s_0 s_1 s_2 s_3 s_4 s_5) | ((with_reducible refine (hFl _).mono ?_); rintro e wD ⟨rfl, rfl⟩) | (refine wpList_store_row rfl 32 (.tmp 9) (.tmp 76) rfl g9 (stC (⟨ym, true, yh, yla, ylo, yi⟩ : St)) rfl rfl 32 _ kSC (infoSt (⟨ym, true, yh, yla, ylo, yi⟩ : St)) rfl (oneSt (⟨ym, true, yh, yla, ylo, yi⟩ : St)) ?_; have kYE := kY.rowOther g9 (by omega) (stC (⟨ym, true, yh, yla, ylo, yi⟩ : St)); have kSE := kSC.row (stC (⟨ym, true, yh, yla, ylo, yi⟩ : St)); have BE := bel_row BC g9 hg9w (stC (⟨ym, true, yh, yla, ylo, yi⟩ : St)); clear kY kSC BC; generalize World.setRow _ _ _ = WE at *))
          exact ⟨⟨k + 1, (⟨yf, ⟨ym, true, yh, yla, ylo, yi⟩, 1, yv, yn⟩ : Su), true, by omega, by go_num, rfl, fun _ => rfl, HC1.out, hf', kYE, kSE, BE⟩, by simp [intOf]; omega⟩
        case true =>
          cases hfb : fitsB X.s
          case false =>
            rw [hfb] at hFit
            clear hNe hfb
            go_wp2_with (first | (refine wpList_store_row rfl 36 (.tmp 7) (.tmp 44) rfl g7 (suC (⟨yf, ⟨ym, true, yh, yla, ylo, yi⟩, 1, yv, yn⟩ : Su)) rfl rfl 36 _ kXB (infoSu _) rfl (oneSu _) ?_; have kY := kXB.row (suC (⟨yf, ⟨ym, true, yh, yla, ylo, yi⟩, 1, yv, yn⟩ : Su)); have kSC := kSB.rowOther g7 (by omega) (suC (⟨yf, ⟨ym, true, yh, yla, ylo, yi⟩, 1, yv, yn⟩ : Su)); have BC := bel_row BB g7 hg7 (suC (⟨yf, ⟨ym, true, yh, yla, ylo, yi⟩, 1, yv, yn⟩ : Su)); clear kXB kSB BB; generalize World.setRow _ _ _ = WC at *; have y_5 := kY.cell 5; have y_6 := kY.cell 6; have y_7 := kY.cell 7; have y_8 := kY.cell 8; have y_9 := kY.cell 9; have y_10 := kY.cell 10; have y_11 := kY.cell 11; have s_0 := kSC.cell 0; have s_1 := kSC.cell 1; have s_2 := kSC.cell 2; have s_3 := kSC.cell 3; have s_4 := kSC.cell 4; have s_5 := kSC.cell 5; simp at y_5 y_6 y_7 y_8 y_9 y_10 y_11 s_0 s_1 s_2 s_3 s_4 s_5) | ((with_reducible refine (hFl _).mono ?_); rintro e wD ⟨rfl, rfl⟩) | ((with_reducible refine (hIts _).mono ?_); rintro e wI ⟨rfl, qI⟩; have kYI := kY.below qI kY.lt; have kSI := kSC.below qI kSC.lt; have BI := bthen BC qI; clear qI kY kSC BC y_5 y_6 y_7 y_8 y_9 y_10 y_11 s_0 s_1 s_2 s_3 s_4 s_5; have kY := kYI; have kSC := kSI; have BC := BI; clear kYI kSI BI; have y_5 := kY.cell 5; have y_6 := kY.cell 6; have y_7 := kY.cell 7; have y_8 := kY.cell 8; have y_9 := kY.cell 9; have y_10 := kY.cell 10; have y_11 := kY.cell 11; have s_0 := kSC.cell 0; have s_1 := kSC.cell 1; have s_2 := kSC.cell 2; have s_3 := kSC.cell 3; have s_4 := kSC.cell 4; have s_5 := kSC.cell 5; simp at y_5 y_6 y_7 y_8 y_9 y_10 y_11 s_0 s_1 s_2 s_3 s_4 s_5) | ((with_reducible refine (hFit _).mono ?_); rintro e wI ⟨rfl, qI⟩; have kYI := kY.below qI kY.lt; have kSI := kSC.below qI kSC.lt; have BI := bthen BC qI; clear qI kY kSC BC y_5 y_6 y_7 y_8 y_9 y_10 y_11 s_0 s_1 s_2 s_3 s_4 s_5; have kY := kYI; have kSC := kSI; have BC := BI; clear kYI kSI BI; have y_5 := kY.cell 5; have y_6 := kY.cell 6; have y_7 := kY.cell 7; have y_8 := kY.cell 8; have y_9 := kY.cell 9; have y_10 := kY.cell 10; have y_11 := kY.cell 11; have s_0 := kSC.cell 0; have s_1 := kSC.cell 1; have s_2 := kSC.cell 2; have s_3 := kSC.cell 3; have s_4 := kSC.cell 4; have s_5 := kSC.cell 5; simp at y_5 y_6 y_7 y_8 y_9 y_10 y_11 s_0 s_1 s_2 s_3 s_4 s_5) | (refine wpList_store_row rfl 32 (.tmp 9) (.tmp 76) rfl g9 (stC (⟨ym, true, yh, yla, ylo, yi⟩ : St)) rfl rfl 32 _ kSC (infoSt (⟨ym, true, yh, yla, ylo, yi⟩ : St)) rfl (oneSt (⟨ym, true, yh, yla, ylo, yi⟩ : St)) ?_; have kYE := kY.rowOther g9 (by omega) (stC (⟨ym, true, yh, yla, ylo, yi⟩ : St)); have kSE := kSC.row (stC (⟨ym, true, yh, yla, ylo, yi⟩ : St)); have BE := bel_row BC g9 hg9w (stC (⟨ym, true, yh, yla, ylo, yi⟩ : St)); clear kY kSC BC; generalize World.setRow _ _ _ = WE at *))
            exact ⟨⟨k + 1, (⟨yf, ⟨ym, true, yh, yla, ylo, yi⟩, 1, yv, yn⟩ : Su), true, by omega, by go_num, rfl, fun _ => rfl, HC1.out, hf', kYE, kSE, BE⟩, by simp [intOf]; omega⟩
          case true =>
            rw [HC6.out (HBa.out rfl) hfb, Bool.not_true] at hNe
            rw [hfb] at hFit
            clear hfb
            go_wp2_with (first | (refine wpList_store_row rfl 36 (.tmp 7) (.tmp 44) rfl g7 (suC (⟨yf, ⟨ym, true, yh, yla, ylo, yi⟩, 1, yv, yn⟩ : Su)) rfl rfl 36 _ kXB (infoSu _) rfl (oneSu _) ?_; have kY := kXB.row (suC (⟨yf, ⟨ym, true, yh, yla, ylo, yi⟩, 1, yv, yn⟩ : Su)); have kSC := kSB.rowOther g7 (by omega) (suC (⟨yf, ⟨ym, true, yh, yla, ylo, yi⟩, 1, yv, yn⟩ : Su)); have BC := bel_row BB g7 hg7 (suC (⟨yf, ⟨ym, true, yh, yla, ylo, yi⟩, 1, yv, yn⟩ : Su)); clear kXB kSB BB; generalize World.setRow _ _ _ = WC at *; have y_5 := kY.cell 5; have y_6 := kY.cell 6; have y_7 := kY.cell 7; have y_8 := kY.cell 8; have y_9 := kY.cell 9; have y_10 := kY.cell 10; have y_11 := kY.cell 11; have s_0 := kSC.cell 0; have s_1 := kSC.cell 1; have s_2 := kSC.cell 2; have s_3 := kSC.cell 3; have s_4 := kSC.cell 4; have s_5 := kSC.cell 5; simp at y_5 y_6 y_7 y_8 y_9 y_10 y_11 s_0 s_1 s_2 s_3 s_4 s_5) | ((with_reducible refine (hFl _).mono ?_); rintro e wD ⟨rfl, rfl⟩) | ((with_reducible refine (hIts _).mono ?_); rintro e wI ⟨rfl, qI⟩; have kYI := kY.below qI kY.lt; have kSI := kSC.below qI kSC.lt; have BI := bthen BC qI; clear qI kY kSC BC y_5 y_6 y_7 y_8 y_9 y_10 y_11 s_0 s_1 s_2 s_3 s_4 s_5; have kY := kYI; have kSC := kSI; have BC := BI; clear kYI kSI BI; have y_5 := kY.cell 5; have y_6 := kY.cell 6; have y_7 := kY.cell 7; have y_8 := kY.cell 8; have y_9 := kY.cell 9; have y_10 := kY.cell 10; have y_11 := kY.cell 11; have s_0 := kSC.cell 0; have s_1 := kSC.cell 1; have s_2 := kSC.cell 2; have s_3 := kSC.cell 3; have s_4 := kSC.cell 4; have s_5 := kSC.cell 5; simp at y_5 y_6 y_7 y_8 y_9 y_10 y_11 s_0 s_1 s_2 s_3 s_4 s_5) | ((with_reducible refine (hFit _).mono ?_); rintro e wI ⟨rfl, qI⟩; have kYI := kY.below qI kY.lt; have kSI := kSC.below qI kSC.lt; have BI := bthen BC qI; clear qI kY kSC BC y_5 y_6 y_7 y_8 y_9 y_10 y_11 s_0 s_1 s_2 s_3 s_4 s_5; have kY := kYI; have kSC := kSI; have BC := BI; clear kYI kSI BI; have y_5 := kY.cell 5; have y_6 := kY.cell 6; have y_7 := kY.cell 7; have y_8 := kY.cell 8; have y_9 := kY.cell 9; have y_10 := kY.cell 10; have y_11 := kY.cell 11; have s_0 := kSC.cell 0; have s_1 := kSC.cell 1; have s_2 := kSC.cell 2; have s_3 := kSC.cell 3; have s_4 := kSC.cell 4; have s_5 := kSC.cell 5; simp at y_5 y_6 y_7 y_8 y_9 y_10 y_11 s_0 s_1 s_2 s_3 s_4 s_5) | (refine wpList_store_row rfl 32 (.tmp 9) (.tmp 76) rfl g9 (stC (⟨ym, true, yh, yla, ylo, yi⟩ : St)) rfl rfl 32 _ kSC (infoSt (⟨ym, true, yh, yla, ylo, yi⟩ : St)) rfl (oneSt (⟨ym, true, yh, yla, ylo, yi⟩ : St)) ?_; have kYE := kY.rowOther g9 (by omega) (stC (⟨ym, true, yh, yla, ylo, yi⟩ : St)); have kSE := kSC.row (stC (⟨ym, true, yh, yla, ylo, yi⟩ : St)); have BE := bel_row BC g9 hg9w (stC (⟨ym, true, yh, yla, ylo, yi⟩ : St)); clear kY kSC BC; generalize World.setRow _ _ _ = WE at *))
            exact ⟨⟨k + 1, (⟨yf, ⟨ym, true, yh, yla, ylo, yi⟩, 1, yv, yn⟩ : Su), true, by omega, by go_num, rfl, fun _ => rfl, HC1.out, hf', kYE, kSE, BE⟩, by simp [intOf]; omega⟩
      · obtain rfl : k = T := by omega
        have hB := Boot_any X.f hf
        have hSy := fun W => seen_any X.f hf 0 0 0 1 (.inl rfl) Vote_zero W
        have hf' := seenX_ok hf 1
        have hB2 := Boot_any _ hf'
        have hSz := fun W => seen_any _ hf' 0 0 0 1 (.inl rfl) Vote_zero W
        obtain ⟨c1, c2, c3, c4, c5⟩ := stands_plain hK (by omega) (by omega)
        generalize bootV X.f = bx at *
        generalize seenX X.f 1 = Y at *
        obtain ⟨yf, ⟨ym, ya, yh, yla, ylo, yi⟩, yp, yv, yn⟩ := Y
        obtain rfl : ya = false := c1
        obtain rfl : ym = 0 := c2
        obtain rfl : yp = 1 := c3
        dsimp only at hB2 hSz c4 c5
        generalize bootV yf = bz at *
        generalize seenX yf 1 = Z at *
        obtain ⟨zf, zs, zp, zv, zn⟩ := Z
        dsimp only at c4 c5
        subst c4
        subst c5
        have hEq := run_eq_st ⟨0, false, yh, yla, ylo, yi⟩ ⟨0, false, yh, yla, ylo, yi⟩
        rw [eqSt_self] at hEq
        have hEf := run_eq_fl zf
        clear hBa hK hf hf' kS
        have x_0 := kX.cell 0
        have x_1 := kX.cell 1
        have x_2 := kX.cell 2
        have x_3 := kX.cell 3
        have x_4 := kX.cell 4
        simp at x_0 x_1 x_2 x_3 x_4
        go_wp2_with fail
        with_reducible refine (hB _ (hN.below hbr)).mono ?_
        rintro e w9 ⟨rfl, q9⟩
        have B9 := bthen hbr q9
        clear q9 kX hbr x_0 x_1 x_2 x_3 x_4
        go_wp2_with fail
        with_reducible refine (hSy _ (hN.below B9)).mono ?_
        rintro e wB ⟨rfl, qB⟩
        have BB := (bthen B9 qB).alloc (bthen B9 qB).size (.cells suZ 36)
        have kY := Blk.new wB 36 suZ
        have hgB : w.heap.size ≤ wB.heap.size := (bthen B9 qB).size
        clear qB B9
        go_wp2_with (refine wpList_store_row rfl 36 (.tmp 11) (.tmp 81) rfl wB.heap.size (suC (⟨zf, ⟨0, false, yh, yla, ylo, yi⟩, 1, yv, yn⟩ : Su)) rfl rfl 36 _ kY (infoSu _) rfl (oneSu _) ?_; have kYC := kY.row (suC (⟨zf, ⟨0, false, yh, yla, ylo, yi⟩, 1, yv, yn⟩ : Su)); have BC := bel_row BB wB.heap.size hgB (suC (⟨zf, ⟨0, false, yh, yla, ylo, yi⟩, 1, yv, yn⟩ : Su)); clear kY BB; generalize World.setRow _ _ _ = WC at *; generalize wB.heap.size = gY at *; have x_0 := kYC.cell 0; have x_1 := kYC.cell 1; have x_2 := kYC.cell 2; have x_3 := kYC.cell 3; have x_4 := kYC.cell 4; simp at x_0 x_1 x_2 x_3 x_4)
        with_reducible refine (hB2 _ (hN.below BC)).mono ?_
        rintro e wD ⟨rfl, qD⟩
        have kYD := kYC.below qD kYC.lt
        have BD := bthen BC qD
        clear qD kYC BC x_0 x_1 x_2 x_3 x_4
        go_wp2_with fail
        with_reducible refine (hSz _ (hN.below BD)).mono ?_
        rintro e wE ⟨rfl, qE⟩
        have kYE := (kYD.below qE kYD.lt).alloc (.cells suZ 36)
        have BE := (bthen BD qE).alloc (bthen BD qE).size (.cells suZ 36)
        have kZ := Blk.new wE 36 suZ
        have hgE : w.heap.size ≤ wE.heap.size := (bthen BD qE).size
        have hgY : gY < wE.heap.size := Nat.lt_of_lt_of_le kYD.lt qE.size
        clear qE kYD BD
        go_wp2_with (refine wpList_store_row rfl 36 (.tmp 12) (.tmp 86) rfl wE.heap.size (suC (⟨zf, ⟨0, false, yh, yla, ylo, yi⟩, zp, zv, zn⟩ : Su)) rfl rfl 36 _ kZ (infoSu _) rfl (oneSu _) ?_; have kYF := kYE.rowOther wE.heap.size (by omega) (suC (⟨zf, ⟨0, false, yh, yla, ylo, yi⟩, zp, zv, zn⟩ : Su)); have kZF := kZ.row (suC (⟨zf, ⟨0, false, yh, yla, ylo, yi⟩, zp, zv, zn⟩ : Su)); have BF := bel_row BE wE.heap.size hgE (suC (⟨zf, ⟨0, false, yh, yla, ylo, yi⟩, zp, zv, zn⟩ : Su)); clear kYE kZ BE; generalize World.setRow _ _ _ = WF at *; generalize wE.heap.size = gZ at *; have y_0 := kYF.cell 0; have y_1 := kYF.cell 1; have y_2 := kYF.cell 2; have y_3 := kYF.cell 3; have y_4 := kYF.cell 4; have y_5 := kYF.cell 5; have y_6 := kYF.cell 6; have y_7 := kYF.cell 7; have y_8 := kYF.cell 8; have y_9 := kYF.cell 9; have y_10 := kYF.cell 10; have y_11 := kYF.cell 11; simp at y_0 y_1 y_2 y_3 y_4 y_5 y_6 y_7 y_8 y_9 y_10 y_11; have z_0 := kZF.cell 0; have z_1 := kZF.cell 1; have z_2 := kZF.cell 2; have z_3 := kZF.cell 3; have z_4 := kZF.cell 4; have z_5 := kZF.cell 5; have z_6 := kZF.cell 6; have z_7 := kZF.cell 7; have z_8 := kZF.cell 8; have z_9 := kZF.cell 9; have z_10 := kZF.cell 10; have z_11 := kZF.cell 11; simp at z_0 z_1 z_2 z_3 z_4 z_5 z_6 z_7 z_8 z_9 z_10 z_11)
        go_ret
        exact ⟨rfl, BF⟩
end Go.Proofs.YtebkeocpojlepaaGreatDoor
