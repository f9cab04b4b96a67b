/-
  THE INODE TABLE in a transaction: Get, Put, Take, Free.
-/
import Derived.Test.YtcdpakjhjmchhaaDoorInB
import Derived.Test.YtcdpakjhjmchhaaDoorAvA
namespace Go.Proofs.YtcdpakjhjmchhaaDoor.Ino
open Go Go.Proofs Go.Proofs.YtcdpakjhjmchhaaDoor.Wx Go.Proofs.YtcdpakjhjmchhaaDoor.Hp Go.Proofs.YtcdpakjhjmchhaaDoor.W Go.Proofs.YtcdpakjhjmchhaaDoor.Ad Go.Proofs.YtcdpakjhjmchhaaDoor.Tm Go.Proofs.YtcdpakjhjmchhaaDoor.Bt Go.Proofs.YtcdpakjhjmchhaaDoor.Spc Go.Proofs.YtcdpakjhjmchhaaDoor.Re
open Go.Proofs.YtcdpakjhjmchhaaDoor.Hd (ints)
open Go.Proofs.YtcdpakjhjmchhaaDoor.In (z15 mayR encR decA ints_one ints_length ints_eq pairs15 cell15 Glo getR_length encR_length z15_row)

/-- where record n stands -/
def rblk (g : G) (n : Int) : Int := (g.inodes + n.toNat / 8 : Nat)
def rat (n : Int) : Nat := 64 * (n.toNat % 8)
theorem rat_le (n : Int) : rat n + 64 ≤ 512 := by unfold rat; omega
theorem decA_length (bs : Txt) : (decA bs).1.length = 15 := by
  unfold decA; split
  · exact List.length_replicate
  · split
    · exact getR_length bs
    · exact List.length_replicate
def getM (T : TM) (g : G) (n : Int) : List Int × Int :=
  if ¬ (1 ≤ n ∧ n < g.count) then (z15, 110) else if (T.read (rblk g n)).2 ≠ 0 then (z15, (T.read (rblk g n)).2) else decA (((T.read (rblk g n)).1.drop (rat n)).take 64)
theorem getM_length (T : TM) (g : G) (n : Int) : (getM T g n).1.length = 15 := by
  unfold getM
  split
  · exact List.length_replicate
  · split
    · exact List.length_replicate
    · exact decA_length _
def putM (T : TM) (g : G) (n : Int) (R : List Int) : TM × Int :=
  if ¬ (1 ≤ n ∧ n < g.count) then (T, 110) else if mayR R = false then (T, 111) else if (T.read (rblk g n)).2 ≠ 0 then (T, (T.read (rblk g n)).2) else
    T.write (rblk g n) (putU (T.read (rblk g n)).1 (rat n) (encR R))
/-- Take: so many numbers from n on -/
def goI (T : TM) (g : G) (R : List Int) : Nat → Int → TM × Int × Int
  | 0, _ => (T, 0, 90)
  | k + 1, n => if (getM T g n).2 ≠ 0 then (T, 0, (getM T g n).2) else if (getM T g n).1 = z15 then
      if (putM T g n R).2 ≠ 0 then ((putM T g n R).1, 0, (putM T g n R).2) else ((putM T g n R).1, n, 0)
    else goI T g R k (n + 1)
def takeI (T : TM) (g : G) (R : List Int) : TM × Int × Int := if mayR R = false ∨ R.getD 0 0 = 0 then (T, 0, 111) else goI T g R (g.count - 1) 1
def freeI (T : TM) (g : G) : Nat → Int → Int → Int × Int
  | 0, _, m => (m, 0)
  | k + 1, n, m => if (getM T g n).2 ≠ 0 then (0, (getM T g n).2) else freeI T g k (n + 1) (if (getM T g n).1 = z15 then m + 1 else m)
structure Cok (g : G) : Prop where
  ok : g.ok
  c : g.count ≤ 1099511627776
theorem isInode_spec {g : G} {n : Int} {h : Heap} {K : Value → Heap → Prop} (ok : Cok g) (hK : ∀ h', Fr No h h' → K (.bool (decide (1 ≤ n ∧ n < g.count))) h') : C.inode_isInode g.v n h K := by
  have := ok.c
  refine inode_isInode.ok (New.intro fun h2 n2 => ⟨_, rda n2.rd rfl, In.within_spec ⟨_, rfl, ?_⟩⟩)
  rw [wrap_i64 (by omega) (by omega)]
  have e : (decide (1 ≤ n) && decide (n ≤ (g.count : Int) - 1)) = decide (1 ≤ n ∧ n < g.count) := by
    rw [Bool.eq_iff_iff, Bool.and_eq_true, decide_eq_true_iff, decide_eq_true_iff, decide_eq_true_iff]
    omega
  rw [e]
  exact hK h2 n2.fr
theorem Record_spec {g : G} {n : Int} {h : Heap} {K : Value → Heap → Prop} (ok : Cok g) (h1 : 1 ≤ n) (h2 : n < g.count) (hK : ∀ h', Fr No h h' → K (.tuple #[.int .i64 (rblk g n), .int .i64 (rat n), .int .i64 0]) h') : C.geo_Record g.v n h K := by
  have c1 := ok.c
  have c2 := ok.ok.i
  refine geo_Record.ok (New.intro fun h2 n2 => cf (decide_eq_false (by omega)) ⟨_, rda n2.rd rfl, cf (decide_eq_false (by omega)) ⟨_, rda n2.rd rfl, ?_⟩⟩)
  have hK := hK h2 n2.fr
  have e1 : Int.tdiv n 8 = n / 8 := Int.tdiv_eq_ediv_of_nonneg (by omega)
  have e2 : Int.tmod n 8 = n % 8 := Int.tmod_eq_emod_of_nonneg (by omega)
  rw [e1, e2, wrap_i64 (n := n / 8) (by omega) (by omega), wrap_i64 (n := (g.inodes : Int) + n / 8) (by omega) (by omega), wrap_i64 (n := n % 8 * 64) (by omega) (by omega)]
  have e3 : n % 8 * 64 = ((rat n : Nat) : Int) := by unfold rat; omega
  have e4 : (g.inodes : Int) + n / 8 = rblk g n := by unfold rblk; omega
  rw [e3, e4]; exact hK
theorem place_spec {h : Heap} {F : Nat → Prop} {t d : Option Addr} {T : TM} {g : G} {n : Int} {K : Value → Heap → Prop} (x : Tx h F t d T) (ok : Cok g) (h1 : 1 ≤ n) (h2 : n < g.count)
    (hK : ∀ a l c h', Fr No h h' → l = (T.read (rblk g n)).1.length → Sl h' 1 a l c ((T.read (rblk g n)).1.map bv) (From h.size) → K (.tuple #[.int .i64 (rblk g n), .slice a l c, .int .i64 (rat n), .int .i64 (T.read (rblk g n)).2]) h') : C.inode_place t g.v n h K := by
  refine inode_place.ok (New.intro fun h2' n2 => ⟨g.v, rfl, cellsAll n2.rd, Record_spec ok h1 h2 fun h3 f3 => ⟨_, _, _, rfl, cn (fun y => absurd rfl y) fun _ => ?_⟩⟩)
  have F3 := n2.fr.no f3
  refine Tm.Read_spec (x.no F3) fun a l c h4 f4 hl s => ⟨_, _, _, _, rfl, ?_⟩
  exact hK a l c h4 (F3.no f4) hl (s.mono fun b hb => Nat.le_trans F3.size hb)
theorem Get_spec {h : Heap} {F : Nat → Prop} {t d : Option Addr} {T : TM} {g : G} {n : Int} {K : Value → Heap → Prop} (gl : Glo h) (x : Tx h F t d T) (ok : Cok g)
    (hK : ∀ h', Fr No h h' → K (.tuple #[.agg ⟨ints (getM T g n).1⟩, .int .i64 (getM T g n).2]) h') : C.inode_Get t g.v n h K := by
  have ha := rat_le n
  refine inode_Get.ok (New.intro fun h2' n2 => New.intro fun h3 n3 => ⟨g.v, rfl, cellsAll ((n3.at_ n2.own.lt).trans n2.rd), isInode_spec ok fun h4 f4 => ⟨_, rfl, cnot ?_⟩⟩)
  have s2 := n2.size
  have s3 := n3.size
  have f3 : Fr No h h3 := n2.fr.new n3
  have F4 := f3.no f4
  have z4 := f4.size
  have row : ∀ {h' : Heap}, Fr No h4 h' → Own h' h2'.size ∧ (rd h' h2'.size).length = 15 := fun f' => by
    have f34 : Fr No h3 _ := f4.no f'
    exact ⟨f34.own n3.own.lt (fun y => y) n3.own, by rw [f34.rd n3.own.lt fun y => y, n3.rd]; rfl⟩
  by_cases hn : 1 ≤ n ∧ n < g.count
  · have e0 : getM T g n = if (T.read (rblk g n)).2 ≠ 0 then (z15, (T.read (rblk g n)).2) else decA (((T.read (rblk g n)).1.drop (rat n)).take 64) := by unfold getM; rw [if_neg (fun y => y hn)]
    rw [e0] at hK
    refine ct (decide_eq_true hn) ⟨g.v, rfl, cellsAll ((f4.rd (by omega) fun y => y).trans ((n3.at_ n2.own.lt).trans n2.rd)), place_spec (x.no F4) ok hn.1 hn.2 fun a l c h6 f6 hl s6 => ⟨_, _, _, _, _, _, rfl, cn (fun he => ?_) fun he => ?_⟩⟩
    · rw [if_pos he] at hK
      obtain ⟨w, l15⟩ := row f6
      exact z15_row (h3 := h) (F4.no f6) (by omega) w l15 hK
    · rw [if_neg (fun y => y he)] at hK
      have hlen : (T.read (rblk g n)).1.length = 512 := Tx.readLen x he
      have hc := s6.le
      rw [wrap_i64 (by omega) (by omega)]
      refine ⟨⟨by omega, by omega, by omega⟩, ?_⟩
      have B6 := StrAt.cut s6.str hc (i := (rat n : Int).toNat) (j := ((rat n : Int) + 64).toNat) (by omega) (by omega)
      rw [show ((rat n : Int) + 64).toNat - (rat n : Int).toNat = 64 by omega] at B6 ⊢
      refine In.Decode_spec (gl.no (F4.no f6)) B6 (by omega) fun h8 f8 => ⟨_, _, rfl, ?_⟩
      rw [show (rat n : Int).toNat = rat n by omega]
      obtain ⟨w, l15⟩ := row (f6.no f8)
      refine PutRow.intro w (by rw [ints_length, decA_length]) (ints_one _) (by omega) fun h9 d9 => ⟨_, by rw [ints_length]; exact decA_length _, cellsAll ?_, hK h9 (((F4.no f6).no f8).did d9 fun hl => by omega)⟩
      rw [d9.rd]; exact put_all _ _ (by rw [ints_length, decA_length, l15])
  · have e0 : getM T g n = (z15, 110) := by unfold getM; rw [if_pos hn]
    rw [e0] at hK
    obtain ⟨w, l15⟩ := row (Fr.refl _ _)
    exact cf (decide_eq_false hn) (z15_row (h3 := h) F4 (by omega) w l15 hK)
theorem Put_spec {h : Heap} {F : Nat → Prop} {t d : Option Addr} {T : TM} {g : G} {n : Int} {R : List Int} {K : Value → Heap → Prop} (gl : Glo h) (x : Tx h F t d T) (ok : Cok g) (hR : R.length = 15) (hu : T.undo.length < 1000000000)
    (hK : ∀ h' F', Fr F h h' → Gw h F h' F' → Tx h' F' t d (putM T g n R).1 → K (.int .i64 (putM T g n R).2) h') : C.inode_Put t g.v n (ints R) h K := by
  have ha := rat_le n
  have same : ∀ e h', Fr No h h' → putM T g n R = (T, e) → K (.int .i64 e) h' := fun e h' f e0 => by
    rw [e0] at hK
    exact hK h' F (f.mono fun _ _ y => y.elim) (Gw.refl f.size fun b hb => x.lt hb) (x.no f)
  refine inode_Put.ok (New.intro fun h2' n2 => New.intro fun h3 n3 => ⟨g.v, rfl, cellsAll ((n3.at_ n2.own.lt).trans n2.rd), isInode_spec ok fun h4 f4 => ⟨_, rfl, cnot ?_⟩⟩)
  have s2 := n2.size
  have s3 := n3.size
  have F4 := (n2.fr.new n3).no f4
  have z4 := f4.size
  by_cases hn : 1 ≤ n ∧ n < g.count
  · refine ct (decide_eq_true hn) ⟨ints R, by rw [ints_length, hR], cellsAll ((f4.rd (by omega) fun y => y).trans n3.rd), In.Encode_spec (gl.no F4) hR (fun hm h5 f5 => ⟨_, _, _, _, rfl, cn (fun _ => ?_) fun y => absurd (show (111 : Int) = 0 from y) (by decide)⟩) fun hm eb h5 f5 heb s5 => ⟨_, _, _, _, rfl, cn (fun y => absurd rfl y) fun _ => ?_⟩⟩
    · exact same _ h5 (F4.no f5) (by unfold putM; rw [if_neg (fun y => y hn), if_pos hm])
    have z5 := f5.size
    have leb : eb < h5.size := s5.lt
    have F5 := F4.no f5
    refine ⟨g.v, rfl, cellsAll ((f5.rd (by omega) fun y => y).trans ((f4.rd (by omega) fun y => y).trans ((n3.at_ n2.own.lt).trans n2.rd))), place_spec (x.no F5) ok hn.1 hn.2 fun a l c h6 f6 hl s6 => ⟨_, _, _, _, _, _, rfl, cn (fun he => ?_) fun he => ?_⟩⟩
    · exact same _ h6 (F5.no f6) (by unfold putM; rw [if_neg (fun y => y hn), if_neg (by rw [hm]; simp), if_pos he])
    have hlen : (T.read (rblk g n)).1.length = 512 := Tx.readLen x he
    have e0 : putM T g n R = T.write (rblk g n) (putU (T.read (rblk g n)).1 (rat n) (encR R)) := by unfold putM; rw [if_neg (fun y => y hn), if_neg (by rw [hm]; simp), if_neg (fun y => y he)]
    rw [e0] at hK
    generalize T.read (rblk g n) = rd0 at hl s6 hlen hK
    obtain ⟨bs, er⟩ := rd0
    simp only at hl s6 hlen hK
    obtain ⟨p, ep, _⟩ := s6.get (by omega)
    subst ep
    obtain ⟨pb, po, sp⟩ := p
    have esp : sp = none := s6.2.1
    subst esp
    have z6 := f6.size
    have hc := s6.le
    have F6 := F5.no f6
    have le := encR_length hR
    refine ⟨⟨by omega, by omega⟩, ?_⟩
    rw [if_neg (by omega)]
    show CopyP _ (some (Addr.add ⟨pb, po, none⟩ (rat n : Int).toNat)) _ _ _ _
    rw [add_mk]
    have hfrom : h5.size ≤ pb := s6.2.2.1
    have e5 : SlCells h6 (some ⟨eb, 0, none⟩) ((encR R).map bv) := (s5.fr f6 fun _ _ _ y => y).cells
    obtain ⟨w6, l6⟩ := s6.wr
    refine CopyP.intro (new := (encR R).map bv) (by rw [List.length_map, le]; show 64 = min 64 (l - _) * 1; omega) e5 (bv_one _) w6 (by rw [List.length_map, le]; omega) fun h7 d7 => ?_
    have s7 : Sl h7 1 (some ⟨pb, po, none⟩) l c ((putU bs (rat n) (encR R)).map bv) (From h5.size) := by
      have := s6.putAt (new := (encR R).map bv) (j := rat n) (by rw [List.length_map, le]; omega) (by rw [show po + rat n = po + (rat n : Int).toNat by omega]; exact d7)
      rw [putU_put (by rw [hlen, le]; omega)] at this; exact this
    have F7 := F6.did d7 fun hl => by omega
    refine Tm.Write_spec (x.no F7) s7.str (by omega) (fun q eq y => ?_) hu fun h8 F8 f8 g8 x8 => ⟨_, rfl, hK h8 F8 ?_ ?_ x8⟩
    · cases eq
      have y : F pb := y
      have := x.lt y
      omega
    · exact (F7.mono fun _ _ y => y.elim).trans f8 fun _ _ y => y
    · exact (Gw.refl F7.size fun b hb => x.lt hb).trans g8 F7.size
  · exact cf (decide_eq_false hn) (same _ h4 F4 (by unfold putM; rw [if_pos hn]))
theorem putM_bad {T : TM} {g : G} {n : Int} {R : List Int} (h : (putM T g n R).2 ≠ 0) : (putM T g n R).1 = T := by
  unfold putM at h ⊢
  split
  · rfl
  · split
    · rfl
    · split
      · rfl
      · rename_i h1 h2 h3
        rw [if_neg h1, if_neg h2, if_neg h3] at h
        exact TM.write_bad h
theorem Take_spec {h : Heap} {F : Nat → Prop} {t d : Option Addr} {T : TM} {g : G} {R : List Int} {K : Value → Heap → Prop} (gl : Glo h) (x : Tx h F t d T) (ok : Cok g) (hR : R.length = 15) (hu : T.undo.length < 1000000000)
    (hK : ∀ h' F', Fr F h h' → Gw h F h' F' → Tx h' F' t d (takeI T g R).1 → K (.tuple #[.int .i64 (takeI T g R).2.1, .int .i64 (takeI T g R).2.2]) h') : C.inode_Take t g.v (ints R) h K := by
  have hc := ok.c
  have same : ∀ a e h', Fr No h h' → takeI T g R = (T, a, e) → K (.tuple #[.int .i64 a, .int .i64 e]) h' := fun a e h' f e0 => by
    rw [e0] at hK
    exact hK h' F (f.mono fun _ _ y => y.elim) (Gw.refl f.size fun b hb => x.lt hb) (x.no f)
  refine inode_Take.ok (New.intro fun h2' n2 => New.intro fun h3 n3 => ⟨ints R, by rw [ints_length, hR], cellsAll n3.rd, In.may_spec hR fun h4 f4 => ⟨_, rfl, cnot ?_⟩⟩)
  have s2 := n2.size
  have s3 := n3.size
  have F4 := (n2.fr.new n3).no f4
  have z4 := f4.size
  have rg : rd h4 h.size = g.v := (f4.rd (by omega) fun y => y).trans ((n3.at_ n2.own.lt).trans n2.rd)
  have rx : rd h4 h2'.size = ints R := (f4.rd (by omega) fun y => y).trans n3.rd
  cases hm : mayR R with
  | false => exact cf rfl (same _ _ h4 F4 (by unfold takeI; rw [if_pos (.inl hm)]))
  | true =>
    refine ct rfl ⟨_, cell15 rx (by omega), ce (fun e => same _ _ h4 F4 (by unfold takeI; rw [if_pos (.inr e)])) fun hk0 => ?_⟩
    have e0 : takeI T g R = goI T g R (g.count - 1) 1 := by unfold takeI; rw [if_neg]; rintro (y | y); rw [hm] at y; cases y; exact hk0 y
    unfold inode_Take.k1
    refine ⟨fun n hh => 1 ≤ n ∧ (n - 1).toNat ≤ g.count - 1 ∧ Fr No h4 hh ∧ goI T g R (g.count - n.toNat) n = goI T g R (g.count - 1) 1, fun n _ => ((g.count : Int) - n).toNat, ⟨by decide, by show 0 ≤ _; omega, Fr.refl _ _, rfl⟩, ?_⟩
    rintro n h6 ⟨n1, n2', f6, eg⟩
    have F6 := F4.no f6
    have rg6 : rd h6 h.size = g.v := (f6.rd (by omega) fun y => y).trans rg
    refine ⟨_, rda rg6 rfl, cd (fun hn => ?_) fun hn => ?_⟩
    · refine ⟨g.v, rfl, cellsAll rg6, Get_spec (gl.no F6) (x.no F6) ok fun h7 f7 => ⟨_, _, rfl, NewRow.intro (by rw [ints_length, getM_length]) (ints_one _) rfl fun h9 n9 => ?_⟩⟩
      have F9 := (F6.no f7).new n9
      obtain ⟨k, ek⟩ : ∃ k, g.count - n.toNat = k + 1 := ⟨g.count - n.toNat - 1, by omega⟩
      rw [ek] at eg
      have eg' : (if (getM T g n).2 ≠ 0 then (T, 0, (getM T g n).2) else if (getM T g n).1 = z15 then if (putM T g n R).2 ≠ 0 then ((putM T g n R).1, 0, (putM T g n R).2) else ((putM T g n R).1, n, 0) else goI T g R k (n + 1)) = goI T g R (g.count - 1) 1 := eg
      have z7 := f7.size
      have z6 := f6.size
      have q : ∀ b, b < h4.size → rd h9 b = rd h4 b := fun b hb => (n9.at_ (by omega)).trans ((f7.rd (by omega) fun y => y).trans (f6.rd hb fun y => y))
      refine cn (fun he => ?_) fun he => ⟨_, by rw [ints_length, getM_length], cellsAll n9.rd, pairs15 (getM_length T g n) (S := z15) rfl, ?_⟩
      · rw [if_pos he] at eg'
        exact same _ _ h9 F9 (e0.trans eg'.symm)
      rw [if_neg (fun y => y he)] at eg'
      have ez : cellsEq (ints (getM T g n).1) [.int .i64 0, .int .i64 0, .int .i64 0, .int .i64 0, .int .i64 0, .int .i64 0, .int .i64 0, .int .i64 0, .int .i64 0, .int .i64 0, .int .i64 0, .int .i64 0, .int .i64 0, .int .i64 0, .int .i64 0] = decide ((getM T g n).1 = z15) := ints_eq _ z15
      rw [ez]
      refine cd (fun hz => ?_) fun hz => ?_
      · rw [if_pos hz] at eg'
        refine ⟨g.v, rfl, cellsAll ((q _ (by omega)).trans rg), ints R, by rw [ints_length, hR], cellsAll ((q _ (by omega)).trans rx), Put_spec (gl.no F9) (x.no F9) ok hR hu fun h10 F10 f10 g10 x10 => ⟨_, rfl, ?_⟩⟩
        have fall : Fr F h h10 := (F9.mono fun _ _ y => y.elim).trans f10 fun _ _ y => y
        have gall : Gw h F h10 F10 := (Gw.refl F9.size fun b hb => x.lt hb).trans g10 F9.size
        refine cn (fun hp => ?_) fun hp => ?_
        · rw [if_pos hp] at eg'
          rw [e0, ← eg'] at hK
          exact hK h10 F10 fall gall x10
        · rw [if_neg (fun y => y hp)] at eg'
          rw [e0, ← eg'] at hK
          exact hK h10 F10 fall gall x10
      · rw [if_neg hz] at eg'
        rw [wrap_i64 (by omega) (by omega)]
        exact ⟨⟨by omega, by omega, (f6.no f7).new n9, by rw [show g.count - (n + 1).toNat = k by omega]; exact eg'⟩, by show ((g.count : Int) - (n + 1)).toNat < ((g.count : Int) - n).toNat; omega⟩
    · rw [show g.count - n.toNat = 0 by omega] at eg
      exact same _ _ h6 F6 (e0.trans eg.symm)
theorem Free_spec {h : Heap} {F : Nat → Prop} {t d : Option Addr} {T : TM} {g : G} {K : Value → Heap → Prop} (gl : Glo h) (x : Tx h F t d T) (ok : Cok g)
    (hK : ∀ h', Fr No h h' → K (.tuple #[.int .i64 (freeI T g (g.count - 1) 1 0).1, .int .i64 (freeI T g (g.count - 1) 1 0).2]) h') : C.inode_Free t g.v h K := by
  have hc := ok.c
  refine inode_Free.ok (New.intro fun h2' n2 => ?_)
  refine ⟨fun many n hh => 1 ≤ n ∧ 0 ≤ many ∧ many < n ∧ (n - 1).toNat ≤ g.count - 1 ∧ Fr No h2' hh ∧ freeI T g (g.count - n.toNat) n many = freeI T g (g.count - 1) 1 0, fun _ n _ => ((g.count : Int) - n).toNat, ⟨by decide, by decide, by decide, by show 0 ≤ _; omega, Fr.refl _ _, rfl⟩, ?_⟩
  rintro many n h3 ⟨n1, m0, m1, n2', f3, eg⟩
  have rg : rd h3 h.size = g.v := (f3.rd n2.own.lt fun y => y).trans n2.rd
  have F3 := n2.fr.no f3
  refine ⟨_, rda rg rfl, cd (fun hn => ?_) fun hn => ?_⟩
  · refine ⟨g.v, rfl, cellsAll rg, Get_spec (gl.no F3) (x.no F3) ok fun h4 f4 => ⟨_, _, rfl, NewRow.intro (by rw [ints_length, getM_length]) (ints_one _) rfl fun h6 n6 => ?_⟩⟩
    have F6 := (F3.no f4).new n6
    obtain ⟨k, ek⟩ : ∃ k, g.count - n.toNat = k + 1 := ⟨g.count - n.toNat - 1, by omega⟩
    rw [ek] at eg
    have eg' : (if (getM T g n).2 ≠ 0 then (0, (getM T g n).2) else freeI T g k (n + 1) (if (getM T g n).1 = z15 then many + 1 else many)) = freeI T g (g.count - 1) 1 0 := eg
    refine cn (fun he => ?_) fun he => ⟨_, by rw [ints_length, getM_length], cellsAll n6.rd, pairs15 (getM_length T g n) (S := z15) rfl, ?_⟩
    · rw [if_pos he] at eg'
      rw [← eg'] at hK
      exact hK h6 F6
    rw [if_neg (fun y => y he)] at eg'
    have ez : cellsEq (ints (getM T g n).1) [.int .i64 0, .int .i64 0, .int .i64 0, .int .i64 0, .int .i64 0, .int .i64 0, .int .i64 0, .int .i64 0, .int .i64 0, .int .i64 0, .int .i64 0, .int .i64 0, .int .i64 0, .int .i64 0, .int .i64 0] = decide ((getM T g n).1 = z15) := ints_eq _ z15
    rw [ez, wrap_i64 (n := n + 1) (by omega) (by omega), wrap_i64 (n := many + 1) (by omega) (by omega)]
    refine cd (fun hz => ⟨⟨by omega, by omega, by omega, by omega, (f3.no f4).new n6, ?_⟩, by show ((g.count : Int) - (n + 1)).toNat < ((g.count : Int) - n).toNat; omega⟩) fun hz => ⟨⟨by omega, by omega, by omega, by omega, (f3.no f4).new n6, ?_⟩, by show ((g.count : Int) - (n + 1)).toNat < ((g.count : Int) - n).toNat; omega⟩
    · rw [if_pos hz] at eg'
      rw [show g.count - (n + 1).toNat = k by omega]; exact eg'
    · rw [if_neg hz] at eg'
      rw [show g.count - (n + 1).toNat = k by omega]; exact eg'
  · rw [show g.count - n.toNat = 0 by omega] at eg
    rw [← eg] at hK
    exact hK h3 F3
end Go.Proofs.YtcdpakjhjmchhaaDoor.Ino
