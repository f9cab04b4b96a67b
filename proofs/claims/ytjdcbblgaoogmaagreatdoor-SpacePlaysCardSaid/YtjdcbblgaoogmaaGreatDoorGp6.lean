/-
  TEXTS FOR spacePlays_card: TcA TxE RxF WhA WpD TpP BkA BkX TpA TpC TpE SyB SyC SyD SyE.
-/
import Derived.Test.YtjdcbblgaoogmaaGreatDoorGp5
namespace Go.Proofs.YtjdcbblgaoogmaaGreatDoor.Tm
open Go Go.Proofs Go.Proofs.YtjdcbblgaoogmaaGreatDoor.Wx Go.Proofs.YtjdcbblgaoogmaaGreatDoor.Hp Go.Proofs.YtjdcbblgaoogmaaGreatDoor.W Go.Proofs.YtjdcbblgaoogmaaGreatDoor.Ad
def rsOf (ps : List (Int × (Sc × Txt))) (l : List Int) : Wc.Rs := l.map fun i => (i, (aget ps i).getD (⟨none, 0, 0⟩, []))
theorem rs_blocks {h : Heap} {col : Nat → Nat} {d : Option Addr} {r : TR} {T : TM} (X : TxC h col d r T) : Wc.nb (rsOf r.ps T.written) = T.blocks := by
  unfold Wc.nb rsOf TM.blocks
  rw [List.map_map]
  refine List.map_congr_left fun i _ => ?_
  show (i, ((aget r.ps i).getD _).2) = (i, (aget T.put i).getD [])
  rw [X.put, aget_map (fun x : Sc × Txt => x.2) i r.ps]
  cases aget r.ps i <;> rfl
theorem Commit_spec {h : Heap} {F : Nat → Prop} {t d : Option Addr} {T : TM} {K : Value → Heap → Prop} (G : Re.Glo h) (x : Tx h F t d T) (hp : T.put.length < 10000) (hq : T.disk.pend.length < 100000000) (ht : T.disk.tape.length < 100000000)
    (hK : ∀ h' F', Fr F h h' → Gw h F h' F' → Tx h' F' t d T.commit.1 → K (.int .i64 T.commit.2) h') : C.txn_Txn_Commit t h K := by
  have hlt := fun b hb => x.lt (b := b) hb
  have x0 := x
  rcases x with ⟨col, r, rfl, X, hF⟩ | ⟨col, tb, rfl, X, hF⟩
  rotate_left
  · refine txn_Txn_Commit.ok (os ⟨_, rda X.cell rfl, ct rfl ?_⟩)
    have e0 : T.commit = (T, 61) := by unfold TM.commit; rw [X.over, if_pos rfl]
    rw [e0] at hK
    exact hK h F (Fr.refl _ _) (Gw.refl (Nat.le_refl _) hlt) (.inr ⟨col, tb, rfl, X, hF⟩)
  have live := X.live
  have elen : T.put.length = r.ps.length := by rw [X.put, List.length_map]
  have em : (mm (fun x : Sc × Txt => x.1.v) r.ps).length = r.ps.length := mm_length _ _
  refine txn_Txn_Commit.ok (os ⟨_, rda X.cell rfl, cf rfl (os ⟨_, rda X.cell rfl, _, X.map, ce (fun h0 => ?_) fun h0 => ?_⟩)⟩)
  · have e : T.put = [] := List.eq_nil_of_length_eq_zero (by omega)
    have e0 : T.commit = (TM.ended T.disk, 0) := by unfold TM.commit; rw [live, if_neg (by simp), if_pos e]
    rw [e0] at hK
    refine txn_Txn_end.okD (end_body X.own X.cell fun h2 d2 => ?_)
    obtain ⟨F', f, g, y⟩ := X.shut hF (Fr.refl _ _) (Gw.refl (Nat.le_refl _) fun b hb => X.dk.lt hb) X.dk d2
    exact hK h2 F' f g y
  have hne : T.put ≠ [] := fun e => by rw [e] at elen; have : (0 : Nat) = r.ps.length := elen; omega
  have e0 : T.commit = (TM.ended (Wc.wal T.disk T.blocks).1, (Wc.wal T.disk T.blocks).2) := by unfold TM.commit; rw [live, if_neg (by simp), if_neg hne]
  rw [e0] at hK
  refine Written_spec x0 (by omega) fun a l c h3 f3 el s3 => ⟨_, _, _, rfl, ?_⟩
  have wl : T.written.length = l := by have := s3.1; rw [List.length_map] at this; omega
  have z3 := f3.size
  have mem : ∀ i ∈ T.written, ∃ x, aget r.ps i = some x ∧ (i, x) ∈ r.ps := fun i hi => by
    have hi : i ∈ T.put.map (·.1) := (sortZ_perm _).mem_iff.mp hi
    rw [X.put, List.map_map] at hi
    obtain ⟨v, e⟩ := aget_some (m := r.ps) hi
    exact ⟨v, e, aget_mem e⟩
  have rl : (rsOf r.ps T.written).length = l := by unfold rsOf; rw [List.length_map, wl]
  refine ⟨fun la ll lc n hh => 0 ≤ n ∧ n ≤ l ∧ ll = n.toNat ∧ Fr No h3 hh ∧ ∃ F1 : Nat → Prop, Wc.Row h3.size hh F1 2 la ll lc (((rsOf r.ps T.written).take n.toNat).flatMap Wc.cellsR),
    fun _ _ _ n _ => ((l : Int) - n).toNat, ⟨by omega, by omega, rfl, Fr.refl _ _, No, Wc.Row.nil _ _ _⟩, ?_⟩
  rintro la ll lc n h4 ⟨n0, n1, rfl, f4, F1, r1⟩
  have z4 := f4.size
  have f34 := f3.no f4
  refine cd (fun hn => ?_) fun hn => ?_
  · have hn' : n.toNat < T.written.length := by omega
    have cc := SlCells.fr f4 s3.cells fun _ _ x => x
    obtain ⟨p, rfl, cv⟩ := Hd.ints_get (ns := T.written) cc hn'
    obtain ⟨v, ev, mv⟩ := mem _ (List.getElem_mem hn')
    refine ⟨⟨n0, hn⟩, os ⟨_, cv, os ⟨_, rda ((f34.rd X.own.lt fun x => x).trans X.cell) rfl, _, map_fr X.map f34 (fun x => x), v.1.a, v.1.l, v.1.c, ?_, rfl, ?_⟩⟩⟩
    · rw [mget_mm, ev]; rfl
    have erg : (rsOf r.ps T.written)[n.toNat]'(by rw [rl, ← wl]; exact hn') = (T.written[n.toNat], v) := by
      unfold rsOf
      rw [List.getElem_map, ev]; rfl
    refine Wc.row_app (vs := [.int .i64 T.written[n.toNat], v.1.v]) r1 rfl (Wc.cellsR_one (T.written[n.toNat], v)) rfl rfl (Nat.le_of_ble_eq_true rfl) (by omega) (by omega) fun la' lc' h6 F1' f6 g6 r1' => ?_
    rw [wrap_i64 (by omega) (by omega)]
    have en : (n + 1).toNat = n.toNat + 1 := by omega
    refine ⟨⟨by omega, by omega, en.symm, f4.trans f6 fun b hb y => by have := r1.ge b y; omega, F1', ?_⟩, falls hn⟩
    rw [en, take_snoc _ _ (by rw [rl]; omega), List.flatMap_append, erg, List.flatMap_cons, List.flatMap_nil, List.append_nil]
    exact r1'
  have ln : n.toNat = l := by omega
  rw [List.take_of_length_le (by omega), ln] at r1
  rw [ln, ← rl]
  have A4 : DiskF h4 (fun b => col b = 5) d T.disk := X.dk.no f34
  have bl : Wc.Bl h4 (fun b => col b = 5) la (rsOf r.ps T.written) := by
    refine ⟨r1.s.cells, fun p e => ?_, fun q hq => ?_⟩
    · subst e
      obtain ⟨_, _, k, o, _⟩ := r1.s
      refine ⟨o.lt, fun y => ?_⟩
      have y : col p.block = 5 := y
      have := X.nrm p.block (by have := (r1.ge _ k).1; omega)
      omega
    · obtain ⟨i, hi, rfl⟩ := List.mem_map.mp hq
      obtain ⟨v, ev, mv⟩ := mem i hi
      show StrAt h4 ((aget r.ps i).getD _).1.a _ _ ∧ _
      rw [ev]
      have bk := X.pok _ mv
      refine ⟨StrAt.fr f34 bk.s fun _ _ x => x, fun p e => ⟨by have := (bk.at_ p e).1; omega, fun y => ?_⟩⟩
      have y : col p.block = 5 := y
      have := (bk.at_ p e).2
      omega
  refine os ⟨_, rda ((f34.rd X.own.lt fun x => x).trans X.cell) rfl, Wc.Commit_spec (G.no f34) A4 bl (by omega) hq ht fun h7 D7 f7 g7 A7 => ⟨_, rfl, ?_⟩⟩
  rw [rs_blocks X] at A7 ⊢
  have f07 : Fr (fun b => col b = 5) h h7 := (f34.mono fun _ _ x => x.elim).trans f7 fun _ _ x => x
  have s1 := X.sc
  have tl := X.own.lt
  have nt : ¬ col r.tb = 5 := by omega
  refine txn_Txn_end.okD (end_body (f07.own tl nt X.own) ((f07.rd tl nt).trans X.cell) fun h8 d8 => ?_)
  obtain ⟨F', f, g, y⟩ := X.shut hF f07 ⟨fun b hb => g7.old b (by omega), g7.lt⟩ A7 d8
  exact hK h8 F' f g y
end Go.Proofs.YtjdcbblgaoogmaaGreatDoor.Tm
namespace Go.Proofs.YtjdcbblgaoogmaaGreatDoor.Tm
open Go Go.Proofs Go.Proofs.YtjdcbblgaoogmaaGreatDoor.Wx Go.Proofs.YtjdcbblgaoogmaaGreatDoor.Hp Go.Proofs.YtjdcbblgaoogmaaGreatDoor.W Go.Proofs.YtjdcbblgaoogmaaGreatDoor.Ad
theorem col_disk {h h' : Heap} {col : Nat → Nat} {D : Nat → Prop} (g : Gw h (fun b => col b = 5) h' D) (hs : h.size ≤ h'.size) (nrm : ∀ b, h.size ≤ b → col b = 0) :
    ∃ col' : Nat → Nat, Ag h.size col col' ∧ (∀ b, h'.size ≤ b → col' b = 0) ∧ (∀ b, col' b = 5 ↔ D b) ∧ ∀ b, h.size ≤ b → col' b = 0 ∨ col' b = 5 := by
  obtain ⟨col', k1, k2⟩ : ∃ col' : Nat → Nat, (∀ b, D b → col' b = 5) ∧ ∀ b, ¬ D b → col' b = if b < h.size ∧ col b ≠ 5 then col b else 0 :=
    ⟨fun b => @ite _ (D b) (Classical.propDecidable _) 5 (if b < h.size ∧ col b ≠ 5 then col b else 0), fun b x => if_pos x, fun b x => if_neg x⟩
  have old : ∀ b, b < h.size → col' b = col b := fun b hb => by
    by_cases x : D b
    · rw [k1 b x]; exact ((g.old b hb).mp x).symm
    · have : col b ≠ 5 := fun e => x ((g.old b hb).mpr e)
      rw [k2 b x, if_pos ⟨hb, this⟩]
  refine ⟨col', old, fun b hb => ?_, fun b => ⟨fun e => ?_, k1 b⟩, fun b hb => ?_⟩
  · have x : ¬ D b := fun x => by have := g.lt b x; omega
    rw [k2 b x, if_neg (by omega)]
  · by_cases x : D b
    · exact x
    · rw [k2 b x] at e
      split at e
      · rename_i y; exact absurd e y.2
      · exact absurd e (by decide)
  · by_cases x : D b
    · exact .inr (k1 b x)
    · rw [k2 b x, if_neg (by omega)]; exact .inl rfl
theorem TxC.onDisk {h h' : Heap} {col : Nat → Nat} {d : Option Addr} {r : TR} {T : TM} {S : RD} {D : Nat → Prop} (X : TxC h col d r T) (f : Fr (fun b => col b = 5) h h') (g : Gw h (fun b => col b = 5) h' D) (A : DiskF h' D d S) (hN : S.lasts.length = T.N) :
    ∃ col', Ag h.size col col' ∧ (∀ b, h.size ≤ b → col' b = 0 ∨ col' b = 5) ∧ (∀ b, h'.size ≤ b → col' b = 0) ∧ (∀ b, col' b = 5 ↔ D b) ∧ TxC h' col' d r { T with disk := S } := by
  obtain ⟨col', old, big, five, new⟩ := col_disk g f.size X.nrm
  have s1 := X.sc
  have s2 := X.mc
  have tl := X.own.lt
  have ml := map_lt X.map
  have k4 : ∀ b, b < h.size → col b = 4 → ¬ col b = 5 := fun b _ e => by omega
  refine ⟨col', old, new, big, five, ⟨big, (old _ tl).trans s1, f.own tl (by omega) X.own, (f.rd tl (by omega)).trans X.cell, (old _ ml).trans s2, map_fr X.map f (by omega), ?_,
    fun p hp => (X.pok p hp).keep f old k4, fun u hu => (X.uok u hu).keep f old k4, X.put, X.undo, X.live, A.iff five, fun p hp => ?_, fun u hu => ?_⟩⟩
  · have s' := Hp.Sl.fr f X.un (fun b hb hk => by have hk : col b = 3 := hk; omega)
    obtain ⟨h1, h2⟩ := s'
    refine ⟨h1, ?_⟩
    have ul := X.un
    revert h2 ul
    cases r.ua with
    | none => intro h2 _; exact h2
    | some p => intro h2 ul; obtain ⟨a1, a2, a3, a4⟩ := h2; exact ⟨a1, (old _ ul.lt).trans a2, a3, a4⟩
  · have := X.pk p hp
    exact ⟨this.1, by show p.1 < (S.lasts.length : Int); rw [hN]; exact this.2⟩
  · have := X.ui u hu
    exact ⟨this.1, by show u.i < (S.lasts.length : Int); rw [hN]; exact this.2⟩
theorem TxO.onDisk {h h' : Heap} {col : Nat → Nat} {d : Option Addr} {tb : Nat} {T : TM} {S : RD} {D : Nat → Prop} (X : TxO h col d tb T) (f : Fr (fun b => col b = 5) h h') (g : Gw h (fun b => col b = 5) h' D) (A : DiskF h' D d S) :
    ∃ col', Ag h.size col col' ∧ (∀ b, h.size ≤ b → col' b = 0 ∨ col' b = 5) ∧ (∀ b, h'.size ≤ b → col' b = 0) ∧ (∀ b, col' b = 5 ↔ D b) ∧ TxO h' col' d tb { T with disk := S } := by
  obtain ⟨col', old, big, five, new⟩ := col_disk g f.size X.nrm
  have s1 := X.sc
  have tl := X.own.lt
  exact ⟨col', old, new, big, five, ⟨big, (old _ tl).trans s1, f.own tl (by omega) X.own, (f.rd tl (by omega)).trans X.cell, X.gone, X.over, A.iff five⟩⟩
/-- a transaction whose disk is handed out, and comes back changed -/
theorem Tx.onDisk {h : Heap} {F : Nat → Prop} {t d : Option Addr} {T : TM} (x : Tx h F t d T) : ∃ D, DiskF h D d T.disk ∧ (∀ b, D b → F b) ∧
    ∀ h' D' S, Fr D h h' → Gw h D h' D' → DiskF h' D' d S → S.lasts.length = T.N → ∃ F', Gw h F h' F' ∧ Tx h' F' t d { T with disk := S } := by
  rcases x with ⟨col, r, e, X, hF⟩ | ⟨col, tb, e, X, hF⟩
  · refine ⟨_, X.dk, fun b y => (hF b).mpr (by have y : col b = 5 := y; omega), fun h' D' S f g A hN => ?_⟩
    obtain ⟨col', old, new, big, five, X'⟩ := X.onDisk f g A hN
    refine ⟨fun b => 1 ≤ col' b ∧ col' b ≤ 5, ⟨fun b hb => by rw [old b hb]; exact (hF b).symm, fun b hb => ?_⟩, .inl ⟨col', r, e, X', fun b => Iff.rfl⟩⟩
    rcases Nat.lt_or_ge b h'.size with y | y
    · exact y
    · rw [big b y] at hb; omega
  · refine ⟨_, X.dk, fun b y => (hF b).mpr (by have y : col b = 5 := y; omega), fun h' D' S f g A hN => ?_⟩
    obtain ⟨col', old, new, big, five, X'⟩ := X.onDisk f g A
    refine ⟨fun b => 1 ≤ col' b ∧ col' b ≤ 5, ⟨fun b hb => by rw [old b hb]; exact (hF b).symm, fun b hb => ?_⟩, .inr ⟨col', tb, e, X', fun b => Iff.rfl⟩⟩
    rcases Nat.lt_or_ge b h'.size with y | y
    · exact y
    · rw [big b y] at hb; omega
end Go.Proofs.YtjdcbblgaoogmaaGreatDoor.Tm
namespace Go.Proofs.YtjdcbblgaoogmaaGreatDoor.Rx
open Go Go.Proofs Go.Proofs.YtjdcbblgaoogmaaGreatDoor.Wx Go.Proofs.YtjdcbblgaoogmaaGreatDoor.Hp Go.Proofs.YtjdcbblgaoogmaaGreatDoor.W Go.Proofs.YtjdcbblgaoogmaaGreatDoor.Ad Go.Proofs.YtjdcbblgaoogmaaGreatDoor.Tm Go.Proofs.YtjdcbblgaoogmaaGreatDoor.Spc Go.Proofs.YtjdcbblgaoogmaaGreatDoor.Re
theorem col_dk {h h' : Heap} {k : Nat} {col : Nat → Nat} {D : Nat → Prop} (hk : k ≠ 0) (g : Gw h (fun b => col b = k) h' D) (nrm : ∀ b, h.size ≤ b → col b = 0) :
    ∃ col' : Nat → Nat, Ag h.size col col' ∧ (∀ b, h'.size ≤ b → h.size ≤ h'.size → col' b = 0) ∧ (∀ b, col' b = k ↔ D b) ∧ ∀ b, h.size ≤ b → col' b = 0 ∨ col' b = k := by
  obtain ⟨col', k1, k2⟩ : ∃ col' : Nat → Nat, (∀ b, D b → col' b = k) ∧ ∀ b, ¬ D b → col' b = if b < h.size ∧ col b ≠ k then col b else 0 :=
    ⟨fun b => @ite _ (D b) (Classical.propDecidable _) k (if b < h.size ∧ col b ≠ k then col b else 0), fun b x => if_pos x, fun b x => if_neg x⟩
  have old : ∀ b, b < h.size → col' b = col b := fun b hb => by
    by_cases x : D b
    · rw [k1 b x]; exact ((g.old b hb).mp x).symm
    · have : col b ≠ k := fun e => x ((g.old b hb).mpr e)
      rw [k2 b x, if_pos ⟨hb, this⟩]
  refine ⟨col', old, fun b hb hs => ?_, fun b => ⟨fun e => ?_, k1 b⟩, fun b hb => ?_⟩
  · have x : ¬ D b := fun x => by have := g.lt b x; omega
    rw [k2 b x, if_neg (by omega)]
  · by_cases x : D b
    · exact x
    · rw [k2 b x] at e
      split at e
      · rename_i y; exact absurd e y.2
      · exact absurd e.symm hk
  · by_cases x : D b
    · exact .inr (k1 b x)
    · rw [k2 b x, if_neg (by omega)]; exact .inl rfl
theorem RxC.onDisk {h h' : Heap} {col : Nat → Nat} {R : RR} {M : RM} {S : RD} {D : Nat → Prop} (X : RxC h col R M) (f : Fr (fun b => col b = 3) h h') (g : Gw h (fun b => col b = 3) h' D) (A : Rf.RfS h' D R.q S) :
    ∃ col', Ag h.size col col' ∧ (∀ b, h.size ≤ b → col' b = 0 ∨ col' b = 3) ∧ (∀ b, h'.size ≤ b → col' b = 0) ∧ RxC h' col' R { M with disk := S } := by
  obtain ⟨col', old, big, three, new⟩ := col_dk (k := 3) (by decide) g X.nrm
  have s1 := X.rc
  have tl := X.ro.lt
  have hs := f.size
  refine ⟨col', old, new, fun b hb => big b hb hs, fun b hb => big b hb hs, (old _ tl).trans s1, f.own tl (by omega) X.ro, (f.rd tl (by omega)).trans X.rr, iffS A three, ?_, X.rm⟩
  refine (sl_rng (X.row.fr f fun b _ hk y => by have hk : col b = 4 := hk; omega)).mono fun b hb => ?_
  have h1 : col b = 4 := hb.1
  show col' b = 4
  rcases Nat.lt_or_ge b h.size with y | y
  · rw [old b y]; exact h1
  · have := X.nrm b y; omega
theorem RxC.gw {h h' : Heap} {F : Nat → Prop} {col col' : Nat → Nat} (hF : ∀ b, F b ↔ 1 ≤ col b ∧ col b ≤ 4) (old : Ag h.size col col') (big : ∀ b, h'.size ≤ b → col' b = 0) : Gw h F h' fun b => 1 ≤ col' b ∧ col' b ≤ 4 := by
  refine ⟨fun b hb => by rw [old b hb]; exact (hF b).symm, fun b hb => ?_⟩
  rcases Nat.lt_or_ge b h'.size with y | y
  · exact y
  · rw [big b y] at hb; omega
theorem RxC.ended {h h' : Heap} {col : Nat → Nat} {R : RR} {M : RM} (X : RxC h col R M) (d : Did R.rb h h' [.pointer R.q, .slice R.ra M.row.length R.rc, .bool true]) : RxC h' col R { M with ends := true } := by
  have s1 := X.rc
  have z := d.size
  refine ⟨fun b hb => X.nrm b (by omega), s1, d.own, d.rd, X.dk.fr d.fr fun b y e => ?_, X.row.fr d.fr fun b _ y e => ?_, X.rm⟩
  · have y : col b = 3 := y; have e : b = R.rb := e; rw [e] at y; omega
  · have y : col b = 4 := y; have e : b = R.rb := e; rw [e] at y; omega
theorem RxS.begin_ {h : Heap} {D : Nat → Prop} {q : Option Addr} {S : RD} {K : Value → Heap → Prop} (x : Rf.RfS h D q S)
    (hK : ∀ F h', Fr No h h' → RxS h' F (some ⟨h.size, 0, none⟩) q ⟨S, [], [], false⟩ → (∀ b, F b ↔ D b ∨ b = h.size) → K (.pointer (some ⟨h.size, 0, none⟩)) h') : C.boleref06_Begin q h K :=
  Begin_spec x fun F h' f x' e => hK F h' f ⟨_, sim_new S, x'⟩ e
/-- its disk is handed out, and comes back changed -/
theorem RxS.onDisk {h : Heap} {F : Nat → Prop} {r e : Option Addr} {T : TM} (x : RxS h F r e T) : ∃ D, Rf.RfS h D e T.disk ∧ (∀ b, D b → F b) ∧
    ∀ h' D' S, Fr D h h' → Gw h D h' D' → Rf.RfS h' D' e S → S.lasts.length = T.N → ∃ F', Gw h F h' F' ∧ RxS h' F' r e { T with disk := S } := by
  obtain ⟨M, s, col, R, rfl, rfl, X, hF⟩ := x
  refine ⟨_, by rw [← s.dk]; exact X.dk, fun b y => (hF b).mpr (by have y : col b = 3 := y; omega), fun h' D' S f g A hN => ?_⟩
  obtain ⟨col', old, new, big, X'⟩ := X.onDisk f g A
  exact ⟨_, RxC.gw hF old big, _, s.onDisk hN, col', R, rfl, rfl, X', fun b => Iff.rfl⟩
theorem Abort6_spec {h : Heap} {F : Nat → Prop} {r e : Option Addr} {T : TM} {K : Value → Heap → Prop} (x : RxS h F r e T)
    (hK : ∀ h', Fr F h h' → RxS h' F r e (TM.ended T.disk) → K (.tuple #[]) h') : C.boleref06_Txn_Abort r h K := by
  obtain ⟨M, s, col, R, rfl, rfl, X, hF⟩ := x
  have s1 := X.rc
  refine boleref06_Txn_Abort.ok (os (Put.add X.ro (by rw [X.rr]; show 0 + 2 < 3; omega) fun h2 d2 => ?_))
  rw [X.rr] at d2
  have X2 := X.ended d2
  have s2 := s.over (S := T.disk) rfl
  rw [← s.dk] at s2
  refine hK h2 (d2.fr.mono fun b _ y => (hF b).mpr (by have y : b = R.rb := y; rw [y]; omega)) ⟨_, ?_, col, R, rfl, rfl, X2, hF⟩
  rw [← s.dk]
  exact s2
/-- what is to be committed -/
theorem Sim.keys {T : TM} {M : RM} (s : Sim T M) (hl : T.over = false) {i : Int} (hi : i ∈ M.written) : ∃ b, lget M.row i = some b ∧ (i, b) ∈ M.row := by
  unfold RM.written at hi
  rw [s.ends, hl, if_neg (by simp), mem_keysTo] at hi
  cases e : lget M.row i with
  | none => rw [e] at hi; exact absurd hi.2.2 (by simp)
  | some b => exact ⟨b, rfl, lget_mem rfl e⟩
theorem Sim.commit {T : TM} {M : RM} (s : Sim T M) (hl : T.over = false) : T.commit = (TM.ended (Wc.wal T.disk T.blocks).1, (Wc.wal T.disk T.blocks).2) := by
  unfold TM.commit
  rw [hl, if_neg (by simp)]
  split
  · rename_i e
    have hw : T.written = [] := by unfold TM.written; rw [e]; exact List.mergeSort_nil
    have : T.blocks = [] := by unfold TM.blocks; rw [hw]; rfl
    rw [this]
    have : Wc.wal T.disk [] = (T.disk, 0) := if_pos rfl
    rw [this]
  · rfl
theorem Sim.may {T : TM} {M : RM} (s : Sim T M) (hl : T.over = false) : Wc.mayW T.blocks (T.N : Int) = true := by
  have hw : (T.written).Pairwise (· < ·) := by rw [s.written]; unfold RM.written; rw [s.ends, hl, if_neg (by simp)]; exact keysTo_lt _ _
  have hr : ∀ x ∈ T.written, 97 < x ∧ x < T.N := fun x hx => by
    rw [s.written] at hx
    obtain ⟨b, _, hb⟩ := s.keys hl hx
    have := s.rr _ hb
    simp only at this
    omega
  have fst : T.blocks.map (·.1) = T.written := by
    unfold TM.blocks; rw [List.map_map]
    exact List.map_id'' (fun _ => rfl) _
  have len : T.blocks.length = T.put.length := by
    unfold TM.blocks TM.written
    rw [List.length_map, sortZ_length, List.length_map]
  unfold Wc.mayW
  rw [fst, okGo_of T.written 97 hw hr, len, decide_eq_true (by have := s.most hl; omega)]; rfl
theorem Sim.block {T : TM} {M : RM} (s : Sim T M) (hl : T.over = false) : T.blocks = M.written.map fun i => (i, (lget M.row i).getD []) := by
  unfold TM.blocks
  rw [s.written]
  exact List.map_congr_left fun i _ => by rw [s.now hl]
theorem Commit_spec {h : Heap} {F : Nat → Prop} {r e : Option Addr} {T : TM} {K : Value → Heap → Prop} (x : RxS h F r e T) (ht : T.disk.tape.length < 100000000) (hW : (Wc.wal T.disk T.blocks).1.lasts.length = T.N)
    (hK : ∀ h' F', Fr F h h' → Gw h F h' F' → RxS h' F' r e T.commit.1 → K (.int .i64 T.commit.2) h') : C.boleref06_Txn_Commit r h K := by
  have hlt := fun b hb => x.lt (b := b) hb
  obtain ⟨M, s, col, R, rfl, rfl, X, hF⟩ := x
  have s1 := X.rc
  refine boleref06_Txn_Commit.ok (os ⟨_, rda X.rr rfl, ?_⟩)
  cases hl : T.over with
  | true =>
    have e0 : T.commit = (T, 61) := by unfold TM.commit; rw [hl, if_pos rfl]
    rw [e0] at hK
    rw [s.ends, hl]
    exact ct rfl (hK h F (Fr.refl _ _) (Gw.refl (Nat.le_refl _) hlt) ⟨M, s, col, R, rfl, rfl, X, hF⟩)
  | false =>
  rw [s.commit hl] at hK
  rw [s.ends, hl]
  refine cf rfl (Written_xspec X fun wa wc h2 f2 sw => ⟨_, _, _, rfl, ?_⟩)
  have z2 := f2.size
  have X2 := X.keep f2 fun _ _ _ _ y => y
  have wl96 : M.written.length ≤ 96 := by rw [s.many]; exact s.most hl
  have rm := X.rm
  refine ⟨fun la ll lc m hh => ∃ (rs : Wc.Rs) (G : Nat → Prop), m = (List.length rs : Int) ∧ rs.length ≤ M.written.length ∧ rs.length = ll ∧ Fr No h2 hh ∧ Wc.Row h2.size hh G 2 la rs.length lc (rs.flatMap Wc.cellsR) ∧ Wc.nb rs = (M.written.take rs.length).map (fun i => (i, (lget M.row i).getD [])) ∧
      ∀ r ∈ rs, StrAt hh r.2.1.a r.2.1.l r.2.2 ∧ ∀ p, r.2.1.a = some p → h2.size ≤ p.block ∧ p.block < hh.size ∧ ¬ G p.block, fun _ _ _ m _ => ((M.written.length : Int) - m).toNat,
    ⟨[], No, rfl, Nat.zero_le _, rfl, Fr.refl _ _, Wc.Row.nil _ _ _, rfl, fun r hr => by cases hr⟩, ?_⟩
  rintro la _ lc _ h3 ⟨rs, G, rfl, hi, rfl, f3, RG, en, ok⟩
  have z3 := f3.size
  refine cd (fun hlt => ?_) fun hlt => ?_
  · have hi' : rs.length < M.written.length := by omega
    obtain ⟨p, ep, cp⟩ := Hd.ints_get (ns := M.written) (SlCells.fr f3 sw.cells fun _ _ y => y) hi'
    obtain ⟨b, eb, mb⟩ := s.keys hl (List.getElem_mem hi')
    have hb := (s.rr _ mb).2.2
    have hb : b.length = 512 := hb
    have X3 := X2.keep f3 fun _ _ _ _ y => y
    rw [Int.toNat_natCast, wrap_i64 (n := (rs.length : Int) + 1) (by omega) (by omega)]
    refine ⟨⟨by omega, hlt⟩, Rz.oe ep ⟨_, cp, os ⟨_, _, _, rda X3.rr rfl, put_spec X3 fun n3 ha => ⟨_, rfl, rda X3.rr rfl, ?_⟩⟩⟩⟩
    rcases ha with ⟨_, y⟩ | ⟨k, hk, rfl, ek⟩
    · rw [eb] at y; cases y
    have ebk : M.row[k].2 = b := by rw [eb] at ek; exact (Option.some.inj ek).symm
    obtain ⟨p2, ep2, cc2⟩ := X3.dcell hk
    rw [Int.toNat_natCast]
    refine ⟨⟨by omega, by omega⟩, Rz.oe ep2 ⟨_, Cells.cell cc2 (i := 1) rfl, ?_⟩⟩
    rw [ebk]
    refine newS_intro fun cap h5 f5 s5 => ⟨rfl, ?_⟩
    have z5 : h3.size < h5.size := s5.lt
    have R5 := RG.keep f5 fun _ _ y => y
    refine Wc.row_app R5 (vs := Wc.cellsR (M.written[rs.length], ⟨some ⟨h3.size, 0, none⟩, b.length, cap⟩, b)) rfl (Wc.cellsR_one _) rfl rfl (by decide) (by omega) (by omega) fun la' lc' h7 G7 f7 g7 R7 => ?_
    have z7 := f7.size
    have el : (rs ++ [((M.written[rs.length] : Int), (⟨some ⟨h3.size, 0, none⟩, b.length, cap⟩ : Tm.Sc), b)] : Wc.Rs).length = rs.length + 1 := by rw [List.length_append]; rfl
    have nG : ∀ {p : Addr}, h2.size ≤ p.block → p.block < h5.size → ¬ G p.block → ¬ G7 p.block := fun {p} _ h2' h3' y => by
      rcases g7 _ y with w | w
      · exact h3' w
      · omega
    refine ⟨⟨rs ++ [((M.written[rs.length] : Int), (⟨some ⟨h3.size, 0, none⟩, b.length, cap⟩ : Tm.Sc), b)], G7, by rw [el]; rfl, by omega, el, (f3.no f5).trans f7 fun x hx y => by have := (R5.ge x y).1; omega, ?_, ?_, fun r hr => ?_⟩, falls hlt⟩
    · rw [el, List.flatMap_append]
      simp only [List.flatMap_cons, List.flatMap_nil, List.append_nil]
      exact R7
    · rw [el, take_snoc _ _ hi', List.map_append, ← en]
      unfold Wc.nb
      rw [List.map_append, List.map_cons, List.map_nil, List.map_cons, List.map_nil, eb]; rfl
    · rcases List.mem_append.mp hr with hr | hr
      · obtain ⟨B, O⟩ := ok r hr
        refine ⟨StrAt.fr f7 (StrAt.fr f5 B fun _ _ y => y) fun p e => (O p e).2.2, fun p e => ?_⟩
        obtain ⟨o1, o2, o3⟩ := O p e
        exact ⟨o1, by omega, nG o1 (by omega) o3⟩
      · rw [List.mem_singleton.mp hr]
        have o3 : ¬ G h3.size := fun y => by have := (RG.ge _ y).2; omega
        refine ⟨StrAt.fr f7 s5.str fun p e => by cases e; exact o3, fun p e => ?_⟩
        cases e
        exact ⟨z3, by show h3.size < h7.size; omega, nG (p := ⟨h3.size, 0, none⟩) z3 z5 o3⟩
  · have ei : rs.length = M.written.length := by omega
    rw [ei, List.take_length, ← s.block hl] at en
    have X3 := X2.keep f3 fun _ _ _ _ y => y
    refine os (Put.add X3.ro (by rw [X3.rr]; show 0 + 2 < 3; omega) fun h8 d8 => ?_)
    rw [X3.rr] at d8
    have X8 := X3.ended d8
    have z8 := d8.size
    have nr : ∀ {p : Addr}, h2.size ≤ p.block → ¬ p.block = R.rb := fun {p} hp y => by have := X.ro.lt; omega
    have b8 : Wd.Bx h8 la rs := ⟨SlCells.fr d8.fr RG.s.cells fun p e => by
      have sg := RG.s
      subst e
      exact nr (RG.ge _ sg.2.2.1).1, fun r hr => StrAt.fr d8.fr (ok r hr).1 fun p e => nr ((ok r hr).2 p e).1⟩
    have h5 : ∀ r ∈ rs, r.2.2.length = 512 ∧ 98 ≤ r.1 ∧ r.1 < T.N := fun r hr => by
      have hm : (r.1, r.2.2) ∈ Wc.nb rs := List.mem_map.mpr ⟨r, hr, rfl⟩
      rw [en, s.block hl] at hm
      obtain ⟨i, hi, ei⟩ := List.mem_map.mp hm
      obtain ⟨b, eb, mb⟩ := s.keys hl hi
      rw [eb] at ei
      have := s.rr _ mb
      simp only [Prod.mk.injEq, Option.getD_some] at ei this
      rw [← ei.1, ← ei.2]
      exact ⟨this.2.2, this.1, this.2.1⟩
    have hmax := X.max
    rw [s.N] at hmax
    have mayE : Wc.mayW (Wc.nb rs) (M.disk.lasts.length : Int) = true := by
      rw [en, s.dk]; exact s.may hl
    refine os ⟨_, rda d8.rd rfl, Wd.Commit6_spec X8.dk b8 (fun r hr p e _ y => ?_) (fun _ => mayE) (fun r hr => (h5 r hr).1) (fun r hr => by have := (h5 r hr).2; omega) (by show M.disk.tape.length < _; rw [s.dk]; exact ht) fun h9 E9 f9 g9 x9 => ⟨_, rfl, ?_⟩⟩
    · have y : col p.block = 3 := y
      have := X.nrm p.block (by have := ((ok r hr).2 p e).1; omega)
      omega
    have x9 : Rf.RfS h9 E9 R.q (Wc.wal M.disk (Wc.nb rs)).1 := x9
    show K (.int .i64 (Wc.wal M.disk (Wc.nb rs)).2) h9
    rw [en, s.dk] at x9 ⊢
    obtain ⟨col', old, new, big, X9⟩ := X8.onDisk f9 g9 x9
    have f8 : Fr F h h8 := (((f2.no f3).mono fun _ _ y => y.elim).trans d8.fr fun b _ y => (hF b).mpr (by have y : b = R.rb := y; rw [y]; omega))
    refine hK h9 _ (f8.trans f9 fun b _ y => (hF b).mpr (by have y : col b = 3 := y; omega)) (RxC.gw hF (fun b hb => old b (by omega)) big) ⟨_, s.over hW, col', R, rfl, rfl, X9, fun b => Iff.rfl⟩
end Go.Proofs.YtjdcbblgaoogmaaGreatDoor.Rx
namespace Go.Proofs.YtjdcbblgaoogmaaGreatDoor.Wc
open Go Go.Proofs Go.Proofs.YtjdcbblgaoogmaaGreatDoor.Wx Go.Proofs.YtjdcbblgaoogmaaGreatDoor.Hp Go.Proofs.YtjdcbblgaoogmaaGreatDoor.W Go.Proofs.YtjdcbblgaoogmaaGreatDoor.Ad Go.Proofs.YtjdcbblgaoogmaaGreatDoor.Pn
theorem diskSteps {h : Heap} {D : Nat → Prop} {d : Option Addr} {S : RD} {K : Value → Heap → Prop} (A : DiskF h D d S) (hK : K (.tuple #[.int .i64 S.writes, .int .i64 S.flushes]) h) : C.adisk_Disk_Steps d h K := by
  obtain ⟨col, A, _⟩ := A
  exact Steps_spec A hK
def modI (v n : Int) : Int := if Int.tmod v n < 0 then Int.tmod v n + n else Int.tmod v n
theorem modI_range {v n : Int} (h : 0 < n) : 0 ≤ modI v n ∧ modI v n < n := by
  unfold modI
  have h1 := Int.tmod_lt_of_pos v h
  have h2 : -n < Int.tmod v n := by
    have h3 := Int.tmod_lt_of_pos (-v) h
    rw [Int.neg_tmod] at h3; omega
  split <;> omega
end Go.Proofs.YtjdcbblgaoogmaaGreatDoor.Wc
namespace Go.Proofs.YtjdcbblgaoogmaaGreatDoor.Wd
open Go Go.Proofs Go.Proofs.YtjdcbblgaoogmaaGreatDoor.Wx Go.Proofs.YtjdcbblgaoogmaaGreatDoor.Hp Go.Proofs.YtjdcbblgaoogmaaGreatDoor.W Go.Proofs.YtjdcbblgaoogmaaGreatDoor.Ad Go.Proofs.YtjdcbblgaoogmaaGreatDoor.Wc Go.Proofs.YtjdcbblgaoogmaaGreatDoor.Rf
open Go.Proofs.YtjdcbblgaoogmaaGreatDoor.L3 (Tt)
variable {h1 hh h' : Heap} {c c' : Nat → Nat} {pb : Nat} {q1 q2 ta wa : Option Addr} {tc wc : Nat} {is : List Sc} {cs bs : List (List UInt8)} {zs : List (Nat × List Value)}
variable {D1 D2 D1' D2' : RD} {E1 E2 E1' E2' : Nat → Prop}
open Classical in
theorem DiskF.crash {h : Heap} {D : Nat → Prop} {d : Option Addr} {S : RD} {ka : Option Addr} {kl kc : Nat} {keep : List Bool} {K : Value → Heap → Prop} (A : DiskF h D d S) (hkl : keep.length = kl) (hk : SlCells h ka (keep.map .bool)) (hac : ∀ p, ka = some p → keep ≠ [] → ¬ D p.block)
    (hK : ∀ h', Fr D h h' → DiskF h' D d (if S.down = true then S else S.cut keep) → K (.tuple #[]) h') : C.adisk_Disk_Crash d ka kl kc h K := by
  obtain ⟨col, A, hz, hD⟩ := A
  refine Ad.Crash_spec A hkl hk (fun p e hne y => hac p e hne ((hD _).mpr (by omega))) fun h' f A' => ?_
  exact hK h' (f.mono fun b _ x => (hD b).mpr ⟨x.1, x.2⟩) ⟨col, A', fun b hb => hz b (by have := f.size; omega), hD⟩
end Go.Proofs.YtjdcbblgaoogmaaGreatDoor.Wd
namespace Go.Proofs.YtjdcbblgaoogmaaGreatDoor.Wc
open Go Go.Proofs Go.Proofs.YtjdcbblgaoogmaaGreatDoor.Wx Go.Proofs.YtjdcbblgaoogmaaGreatDoor.Hp Go.Proofs.YtjdcbblgaoogmaaGreatDoor.W Go.Proofs.YtjdcbblgaoogmaaGreatDoor.Ad
/-- what is counted -/
structure Cn (B : Int) (S : RD) : Prop where
  w0 : 0 ≤ S.writes
  w1 : S.writes ≤ B
  f0 : 0 ≤ S.flushes
  f1 : S.flushes ≤ B
  l0 : 0 ≤ S.left
theorem Cn.mono {B C : Int} {S : RD} (c : Cn B S) (h : B ≤ C) : Cn C S := ⟨c.w0, Int.le_trans c.w1 h, c.f0, Int.le_trans c.f1 h, c.l0⟩
theorem step_cn {S : RD} {f : RD → RD} {B : Int} (c : Cn B S) (hf : ∀ S', Cn B S' → Cn B (f S') ∧ (f S').lasts.length = S'.lasts.length) : Cn B (S.step f).1 ∧ (S.step f).1.lasts.length = S.lasts.length := by
  unfold RD.step
  have l0 := c.l0
  by_cases a : 0 < S.left
  · rw [if_pos a]
    by_cases b : S.left - 1 = 0
    · rw [if_pos b]
      exact ⟨⟨c.w0, c.w1, c.f0, c.f1, Int.le_refl _⟩, applyTo_length _ _⟩
    · rw [if_neg b]
      exact hf { S with left := S.left - 1 } ⟨c.w0, c.w1, c.f0, c.f1, by show 0 ≤ S.left - 1; omega⟩
  · rw [if_neg a]; exact hf S c
theorem on_cn {S : RD} {B : Int} (s : Stp) (c : Cn B S) (hB : B < 1000000000) : Cn (B + 1) (s.on S).1 ∧ (s.on S).1.lasts.length = S.lasts.length := by
  have no : Cn (B + 1) S ∧ S.lasts.length = S.lasts.length := ⟨c.mono (by omega), rfl⟩
  have w0 := c.w0
  have w1 := c.w1
  have f0 := c.f0
  have f1 := c.f1
  cases s with
  | w i b =>
    show Cn (B + 1) (S.write i b).1 ∧ (S.write i b).1.lasts.length = _
    unfold RD.write
    split
    · exact no
    · split
      · exact no
      · split
        · exact no
        · refine step_cn (S := S.putW i b) ⟨?_, ?_, c.f0, by show S.flushes ≤ _; omega, c.l0⟩ fun S' h => ⟨h, rfl⟩
          · show 0 ≤ IntKind.wrap .i64 (S.writes + 1)
            rw [wrap_i64 (by omega) (by omega)]; omega
          · show IntKind.wrap .i64 (S.writes + 1) ≤ _
            rw [wrap_i64 (by omega) (by omega)]; omega
  | f =>
    show Cn (B + 1) S.flush.1 ∧ S.flush.1.lasts.length = _
    unfold RD.flush
    split
    · exact no
    · refine step_cn (S := { S with flushes := IntKind.wrap .i64 (S.flushes + 1) }) ⟨c.w0, by show S.writes ≤ _; omega, ?_, ?_, c.l0⟩ fun S' h => ⟨⟨h.w0, h.w1, h.f0, h.f1, h.l0⟩, applyTo_length _ _⟩
      · show 0 ≤ IntKind.wrap .i64 (S.flushes + 1)
        rw [wrap_i64 (by omega) (by omega)]; omega
      · show IntKind.wrap .i64 (S.flushes + 1) ≤ _
        rw [wrap_i64 (by omega) (by omega)]; omega
theorem runS_cn : ∀ (xs : List Stp) {S : RD} {B : Int}, Cn B S → B + xs.length < 1000000000 → Cn (B + xs.length) (runS xs S).1 ∧ (runS xs S).1.lasts.length = S.lasts.length
  | [], S, B, c, _ => ⟨c.mono (by omega), rfl⟩
  | s :: r, S, B, c, hB => by
    rw [List.length_cons] at hB ⊢
    obtain ⟨a, b⟩ := on_cn s c (by omega)
    have e : runS (s :: r) S = if (s.on S).2 = 0 then runS r (s.on S).1 else s.on S := rfl
    rw [e]
    split
    · obtain ⟨c2, d⟩ := runS_cn r a (by omega)
      exact ⟨c2.mono (by omega), d.trans b⟩
    · exact ⟨a.mono (by omega), b⟩
theorem wal_cn {S : RD} {B : Int} (c : Cn B S) (hB : B + 198 < 1000000000) (l : Nb) : Cn (B + 198) (wal S l).1 ∧ (wal S l).1.lasts.length = S.lasts.length := by
  have no : Cn (B + 198) S ∧ S.lasts.length = S.lasts.length := ⟨c.mono (by omega), rfl⟩
  unfold wal
  split
  · exact no
  · split
    · exact no
    · rename_i hm
      have := mayW_len (l := l) (n := S.lasts.length) (by cases e : mayW l S.lasts.length <;> simp_all)
      split
      · exact no
      · split
        · exact no
        · have hl := commitS_len l (hdrOf l)
          obtain ⟨a, b⟩ := runS_cn (commitS l (hdrOf l)) c (by rw [hl]; omega)
          rw [hl] at a
          exact ⟨a.mono (by omega), b⟩
theorem Cn.new (L : List (List UInt8)) : Cn 0 (fresh L) := ⟨Int.le_refl _, Int.le_refl _, Int.le_refl _, Int.le_refl _, Int.le_refl _⟩
end Go.Proofs.YtjdcbblgaoogmaaGreatDoor.Wc
namespace Go.Proofs.YtjdcbblgaoogmaaGreatDoor.Ap
open Go Go.Proofs Go.Proofs.YtjdcbblgaoogmaaGreatDoor.Wx Go.Proofs.YtjdcbblgaoogmaaGreatDoor.Hp Go.Proofs.YtjdcbblgaoogmaaGreatDoor.W Go.Proofs.YtjdcbblgaoogmaaGreatDoor.Ad Go.Proofs.YtjdcbblgaoogmaaGreatDoor.L3 Go.Proofs.YtjdcbblgaoogmaaGreatDoor.Rf
def intsV (l : List Int) : List Value := l.map (.int .i64)
end Go.Proofs.YtjdcbblgaoogmaaGreatDoor.Ap
namespace Go.Proofs.YtjdcbblgaoogmaaGreatDoor.Ap
open Go Go.Proofs Go.Proofs.YtjdcbblgaoogmaaGreatDoor.Wx Go.Proofs.YtjdcbblgaoogmaaGreatDoor.Hp Go.Proofs.YtjdcbblgaoogmaaGreatDoor.W Go.Proofs.YtjdcbblgaoogmaaGreatDoor.Ad Go.Proofs.YtjdcbblgaoogmaaGreatDoor.L3 Go.Proofs.YtjdcbblgaoogmaaGreatDoor.Rf
section
variable {h : Heap} {col : Nat → Nat} {kb c : Nat} {K : Value → Heap → Prop}
theorem intsV_len {h : Heap} {a : Option Addr} {l c : Nat} {vs : List Int} {F : Nat → Prop} (s : Sl h 1 a l c (intsV vs) F) : vs.length = l := by
  have := s.1
  unfold intsV at this
  rw [List.length_map] at this; omega
theorem intsV_get {h : Heap} {a : Option Addr} {ns : List Int} (A : SlCells h a (intsV ns)) {i : Nat} (hi : i < ns.length) : ∃ p, a = some p ∧ cellOf h (p.add i) = some (.int .i64 ns[i]) := by
  cases a with
  | none => have A : intsV ns = [] := A; have := List.map_eq_nil_iff.mp A; rw [this] at hi; exact absurd hi (by simp)
  | some p => exact ⟨p, rfl, A i _ (by unfold intsV; rw [List.getElem?_map, List.getElem?_eq_getElem hi]; rfl)⟩
end
end Go.Proofs.YtjdcbblgaoogmaaGreatDoor.Ap
namespace Go.Proofs.YtjdcbblgaoogmaaGreatDoor.Tp
open Go Go.Proofs Go.Proofs.YtjdcbblgaoogmaaGreatDoor.Wx Go.Proofs.YtjdcbblgaoogmaaGreatDoor.Hp Go.Proofs.YtjdcbblgaoogmaaGreatDoor.W Go.Proofs.YtjdcbblgaoogmaaGreatDoor.Ad Go.Proofs.YtjdcbblgaoogmaaGreatDoor.Tm
/-- what stands on blocks of its own -/
def Kp (P : Heap → (Nat → Prop) → Prop) : Prop := (∀ {h h' F G}, P h F → Fr G h h' → (∀ b, F b → ¬ G b) → P h' F) ∧ ∀ {h F b}, P h F → F b → b < h.size
theorem kp_tx (t d : Option Addr) (T : TM) : Kp fun h F => Tx h F t d T := ⟨fun x f hG => x.fr f hG, fun x hb => x.lt hb⟩
theorem kp_rx (u q : Option Addr) (T : TM) : Kp fun h F => Rx.RxS h F u q T := ⟨fun x f hG => x.fr f hG, fun x hb => x.lt hb⟩
theorem kp_rf (q : Option Addr) (S : RD) : Kp fun h F => Rf.RfS h F q S := ⟨fun x f hG => x.fr f hG, fun x hb => x.lt hb⟩
/-- more blocks of colour k -/
noncomputable def more (col : Nat → Nat) (n k : Nat) (F : Nat → Prop) : Nat → Nat := fun b => if b < n then col b else @ite _ (F b) (Classical.propDecidable _) k 0
theorem more_ag (col : Nat → Nat) (n k : Nat) (F : Nat → Prop) : Ag n col (more col n k F) := fun b hb => if_pos hb
theorem more_yes {col : Nat → Nat} {n k : Nat} {F : Nat → Prop} {b : Nat} (h : n ≤ b) (hF : F b) : more col n k F b = k := by unfold more; rw [if_neg (by omega), if_pos hF]
theorem more_no {col : Nat → Nat} {n k : Nat} {F : Nat → Prop} {b : Nat} (h : n ≤ b) (hF : ¬ F b) : more col n k F b = 0 := by unfold more; rw [if_neg (by omega), if_neg hF]
end Go.Proofs.YtjdcbblgaoogmaaGreatDoor.Tp
namespace Go.Proofs.YtjdcbblgaoogmaaGreatDoor.Tp
open Go Go.Proofs Go.Proofs.YtjdcbblgaoogmaaGreatDoor.Wx Go.Proofs.YtjdcbblgaoogmaaGreatDoor.Hp Go.Proofs.YtjdcbblgaoogmaaGreatDoor.W Go.Proofs.YtjdcbblgaoogmaaGreatDoor.Ad Go.Proofs.YtjdcbblgaoogmaaGreatDoor.Tm
theorem most_put {h : Heap} {F : Nat → Prop} {u q : Option Addr} {T : TM} (x : Rx.RxS h F u q T) : T.put.length ≤ 96 := by
  obtain ⟨M, s, _⟩ := x
  cases hl : T.over with
  | true => rw [(s.gone hl).1]; exact Nat.zero_le _
  | false => exact s.most hl
end Go.Proofs.YtjdcbblgaoogmaaGreatDoor.Tp
namespace Go.Proofs.YtjdcbblgaoogmaaGreatDoor.Tp
open Go Go.Proofs Go.Proofs.YtjdcbblgaoogmaaGreatDoor.Wx Go.Proofs.YtjdcbblgaoogmaaGreatDoor.Hp Go.Proofs.YtjdcbblgaoogmaaGreatDoor.W Go.Proofs.YtjdcbblgaoogmaaGreatDoor.Ad Go.Proofs.YtjdcbblgaoogmaaGreatDoor.Tm
theorem write_undo (T : TM) (i : Int) (bs : Txt) : (T.write i bs).1.disk = T.disk ∧ (T.write i bs).1.undo.length ≤ T.undo.length + 1 := by
  unfold TM.write
  split
  · exact ⟨rfl, Nat.le_succ _⟩
  · split
    · exact ⟨rfl, Nat.le_succ _⟩
    · split
      · exact ⟨rfl, Nat.le_succ _⟩
      · split
        · exact ⟨rfl, Nat.le_succ _⟩
        · exact ⟨rfl, by show (T.undo ++ [_]).length ≤ _; rw [List.length_append]; exact Nat.le_refl _⟩
end Go.Proofs.YtjdcbblgaoogmaaGreatDoor.Tp
namespace Go.Proofs.YtjdcbblgaoogmaaGreatDoor.Sx
open Go Go.Proofs Go.Proofs.YtjdcbblgaoogmaaGreatDoor.Wx Go.Proofs.YtjdcbblgaoogmaaGreatDoor.Hp Go.Proofs.YtjdcbblgaoogmaaGreatDoor.W Go.Proofs.YtjdcbblgaoogmaaGreatDoor.Ad Go.Proofs.YtjdcbblgaoogmaaGreatDoor.Tm Go.Proofs.YtjdcbblgaoogmaaGreatDoor.Spc Go.Proofs.YtjdcbblgaoogmaaGreatDoor.Av Go.Proofs.YtjdcbblgaoogmaaGreatDoor.Tp
/-- the sides at sb -/
structure Sx (h1 : Heap) (sb : Nat) (vs : List Value) (P Q : Heap → (Nat → Prop) → Prop) (hh : Heap) (col : Nat → Nat) : Prop where
  fr : Fr No h1 hh
  nrm : ∀ b, hh.size ≤ b → col b = 0
  base : ∀ b, b < h1.size → col b = 0
  sc : col sb = 1
  so : Own hh sb
  sr : rd hh sb = vs
  x : ∃ F, P hh F ∧ ∀ b, F b → col b = 2
  y : ∃ F, Q hh F ∧ ∀ b, F b → col b = 3
section
variable {h1 hh h' : Heap} {sb : Nat} {vs : List Value} {P Q P' Q' : Heap → (Nat → Prop) → Prop} {col col' : Nat → Nat}
/-- what is nobody's (or above 3) may change -/
theorem Sx.far (X : Sx h1 sb vs P Q hh col) (kp : Kp P) (kq : Kp Q) {F : Nat → Prop} (f : Fr F hh h') (g : Ag hh.size col col') (n : ∀ b, h'.size ≤ b → col' b = 0) (h0 : ∀ b, F b → (col b = 0 ∨ 4 ≤ col b) ∧ h1.size ≤ b) : Sx h1 sb vs P Q h' col' := by
  obtain ⟨G, p, pG⟩ := X.x
  obtain ⟨E, q, qE⟩ := X.y
  have l := X.so.lt
  have sc := X.sc
  have ns : ¬ F sb := fun y => by have := (h0 _ y).1; omega
  exact ⟨X.fr.trans f fun b hb y => by have := (h0 _ y).2; omega, n, fun b hb => (g b (Nat.lt_of_lt_of_le hb X.fr.size)).trans (X.base b hb), (g _ l).trans sc, f.own l ns X.so, (f.rd l ns).trans X.sr, ⟨G, kp.1 p f (fun b y z => by have := pG _ y; have := (h0 _ z).1; omega), fun b hb => (g _ (kp.2 p hb)).trans (pG b hb)⟩, ⟨E, kq.1 q f (fun b y z => by have := qE _ y; have := (h0 _ z).1; omega), fun b hb => (g _ (kq.2 q hb)).trans (qE b hb)⟩⟩
theorem Sx.no (X : Sx h1 sb vs P Q hh col) (kp : Kp P) (kq : Kp Q) (f : Fr No hh h') : Sx h1 sb vs P Q h' col := X.far kp kq f (Ag.refl _ _) (fun b hb => X.nrm b (Nat.le_trans f.size hb)) fun _ y => y.elim
/-- a call of the program's side -/
theorem Sx.prog (X : Sx h1 sb vs P Q hh col) (kq : Kp Q) {F F' : Nat → Prop} (pF : ∀ b, F b → col b = 2) (f : Fr F hh h') (g : Gw hh F h' F') (p : P' h' F') : ∃ col', Ag hh.size col col' ∧ Sx h1 sb vs P' Q h' col' := by
  obtain ⟨G, q, qG⟩ := X.y
  have l := X.so.lt
  have ag := more_ag col hh.size 2 F'
  have ns : ¬ F sb := fun y => by have := pF _ y; have := X.sc; omega
  have hs := f.size
  refine ⟨more col hh.size 2 F', ag, ⟨X.fr.trans f fun b hb y => ?_, fun b hb => more_no (by omega) fun y => ?_, fun b hb => (ag b (Nat.lt_of_lt_of_le hb X.fr.size)).trans (X.base b hb), (ag _ l).trans X.sc, f.own l ns X.so, (f.rd l ns).trans X.sr, ⟨F', p, fun b hb => ?_⟩, ⟨G, kq.1 q f (fun b y z => ?_), fun b hb => (ag _ (kq.2 q hb)).trans (qG b hb)⟩⟩⟩
  · have := pF _ y; have := X.base b hb; omega
  · have := g.lt b y; omega
  · rcases Nat.lt_or_ge b hh.size with y | y
    · rw [ag b y]; exact pF b ((g.old b y).mp hb)
    · exact more_yes y hb
  · have := qG _ y; have := pF _ z; omega
/-- a call of the document's side -/
theorem Sx.doc (X : Sx h1 sb vs P Q hh col) (kp : Kp P) {F F' : Nat → Prop} (pF : ∀ b, F b → col b = 3) (f : Fr F hh h') (g : Gw hh F h' F') (p : Q' h' F') : ∃ col', Ag hh.size col col' ∧ Sx h1 sb vs P Q' h' col' := by
  obtain ⟨G, q, qG⟩ := X.x
  have l := X.so.lt
  have ag := more_ag col hh.size 3 F'
  have ns : ¬ F sb := fun y => by have := pF _ y; have := X.sc; omega
  have hs := f.size
  refine ⟨more col hh.size 3 F', ag, ⟨X.fr.trans f fun b hb y => ?_, fun b hb => more_no (by omega) fun y => ?_, fun b hb => (ag b (Nat.lt_of_lt_of_le hb X.fr.size)).trans (X.base b hb), (ag _ l).trans X.sc, f.own l ns X.so, (f.rd l ns).trans X.sr, ⟨G, kp.1 q f (fun b y z => ?_), fun b hb => (ag _ (kp.2 q hb)).trans (qG b hb)⟩, ⟨F', p, fun b hb => ?_⟩⟩⟩
  · have := pF _ y; have := X.base b hb; omega
  · have := g.lt b y; omega
  · have := qG _ y; have := pF _ z; omega
  · rcases Nat.lt_or_ge b hh.size with y | y
    · rw [ag b y]; exact pF b ((g.old b y).mp hb)
    · exact more_yes y hb
/-- the sides' own block -/
theorem Sx.did {ws : List Value} (X : Sx h1 sb vs P Q hh col) (kp : Kp P) (kq : Kp Q) (d : Did sb hh h' ws) : Sx h1 sb ws P Q h' col := by
  obtain ⟨F, p, pF⟩ := X.x
  obtain ⟨G, q, qG⟩ := X.y
  have sc := X.sc
  have z := d.size
  refine ⟨X.fr.trans d.fr fun b hb y => ?_, fun b hb => X.nrm b (by omega), X.base, sc, d.own, d.rd, ⟨F, kp.1 p d.fr (fun b y e => ?_), pF⟩, ⟨G, kq.1 q d.fr (fun b y e => ?_), qG⟩⟩
  · have y : b = sb := y
    have := X.base b hb
    rw [y] at this; omega
  · have e : b = sb := e; have := pF _ y; rw [e] at this; omega
  · have e : b = sb := e; have := qG _ y; rw [e] at this; omega
/-- less is known of the sides -/
theorem Sx.map (X : Sx h1 sb vs P Q hh col) (hp : ∀ F, P hh F → ∃ F', P' hh F' ∧ ∀ b, F' b → F b) (hq : ∀ F, Q hh F → ∃ F', Q' hh F' ∧ ∀ b, F' b → F b) : Sx h1 sb vs P' Q' hh col := by
  obtain ⟨F, p, pF⟩ := X.x
  obtain ⟨G, q, qG⟩ := X.y
  obtain ⟨F', p', e1⟩ := hp F p
  obtain ⟨G', q', e2⟩ := hq G q
  exact ⟨X.fr, X.nrm, X.base, X.sc, X.so, X.sr, ⟨F', p', fun b hb => pF b (e1 b hb)⟩, ⟨G', q', fun b hb => qG b (e2 b hb)⟩⟩
end
/-- the sides' cells -/
def sxV (d q t u : Option Addr) (g : G) : List Value := [.pointer d, .pointer q, .pointer t, .pointer u] ++ g.v
/-- both disks, alike -/
abbrev Xd (h1 : Heap) (sb : Nat) (d q t u : Option Addr) (g : G) (S : RD) := Sx h1 sb (sxV d q t u g) (fun h F => DiskF h F d S) (fun h F => Rf.RfS h F q S)
/-- both transactions -/
abbrev Xt (h1 : Heap) (sb : Nat) (d q t u : Option Addr) (g : G) (T U : TM) := Sx h1 sb (sxV d q t u g) (fun h F => Tx h F t d T) (fun h F => Rx.RxS h F u q U)
theorem disks {h1 hh : Heap} {sb : Nat} {d q t u : Option Addr} {g : G} {T : TM} {col : Nat → Nat} (X : Xt h1 sb d q t u g T T hh col) : Xd h1 sb d q t u g T.disk hh col :=
  X.map (fun F x => by obtain ⟨D, a, b⟩ := x.dk; exact ⟨D, a, b⟩) fun F x => by obtain ⟨D, a, b, _⟩ := x.onDisk; exact ⟨D, a, b⟩
theorem block9_spec {x : UInt8} {h : Heap} {K : Value → Heap → Prop} (hK : ∀ h', Fr No h h' → h.size < h'.size → StrAt h' (some ⟨h.size, 0, none⟩) 512 (List.replicate 512 x) → K (.slice (some ⟨h.size, 0, none⟩) 512 512) h') : C.bolelaw09_block (x.toNat : Int) h K := by
  refine bolelaw09_block.ok ⟨⟨by decide, by decide, by decide, by decide⟩, New.intro fun h2 n2 => ?_⟩
  have z2 := n2.size
  refine ⟨fun i hh => ∃ j : Nat, i = j ∧ j ≤ 512 ∧ Fr No h hh ∧ Own hh h.size ∧ h2.size ≤ hh.size ∧ rd hh h.size = (List.replicate j x ++ Hd.zeros (512 - j)).map bv, fun i _ => (((512 : Nat) : Int) - i).toNat, ⟨0, rfl, Nat.zero_le _, n2.fr, n2.own, Nat.le_refl _, n2.rd.trans (Wd.rep8 _)⟩, ?_⟩
  intro i h3 I
  obtain ⟨j, ei, hj, f, o, z, r⟩ := I
  subst ei
  have rl : (rd h3 h.size).length = 512 := by rw [r, List.length_map, List.length_append, List.length_replicate, Hd.zeros_length]; omega
  generalize hq : decide ((j : Int) < ((Int.toNat 512 : Nat) : Int)) = b
  refine cs (fun hlt => ?_) fun hlt => ?_
  · have hlt := of_decide_eq_true (hq.trans hlt)
    have hj' : j < 512 := by have : ((Int.toNat 512 : Nat) : Int) = 512 := rfl; omega
    rw [Int.toNat_natCast, wrap_i64 (n := (j : Int) + 1) (by omega) (by omega)]
    refine ⟨⟨by omega, hlt⟩, Put.add o (by rw [rl]; omega) fun h4 d4 => ⟨⟨j + 1, rfl, hj', f.did d4 fun y => by omega, d4.own, by have := d4.size; omega, ?_⟩, falls (m := 512) (by omega)⟩⟩
    rw [d4.rd, r, Nat.zero_add]
    show ((List.replicate j x ++ Hd.zeros (512 - j)).map bv).set j (bv x) = _
    rw [← List.map_set, List.set_append_right _ _ (by rw [List.length_replicate]; exact Nat.le_refl _), List.length_replicate, Nat.sub_self, show 512 - j = (512 - (j + 1)) + 1 by omega]
    unfold Hd.zeros
    rw [List.replicate_succ, List.set_cons_zero, List.replicate_succ', List.append_assoc]; rfl
  · have hlt := of_decide_eq_false (hq.trans hlt)
    have hj' : j = 512 := by have : ((Int.toNat 512 : Nat) : Int) = 512 := rfl; omega
    subst hj'
    rw [Nat.sub_self, show Hd.zeros 0 = [] from rfl, List.append_nil] at r
    exact hK h3 f (by omega) (strAll r (by rw [List.length_replicate]))
section
variable {h1 hh : Heap} {sb : Nat} {d q t u : Option Addr} {g : G} {T : TM} {S : RD} {col : Nat → Nat} {K : Value → Heap → Prop}
theorem begins_spec (X : Xd h1 sb d q t u g S hh col) (hK : ∀ h' col' t' u', Ag hh.size col col' → hh.size ≤ h'.size → Xt h1 sb d q t' u' g ⟨S, [], [], false⟩ ⟨S, [], [], false⟩ h' col' → K (.bool true) h') : C.bolelaw09_Sides_begins (some ⟨sb, 0, none⟩) hh K := by
  obtain ⟨F, A, hF⟩ := X.x
  refine bolelaw09_Sides_begins.ok (os ⟨_, rda X.sr rfl, Tm.Begin_spec A fun tb h2 F2 f2 g2 x2 => ⟨_, rfl, ?_⟩⟩)
  obtain ⟨col2, ag2, X2⟩ := X.prog (P' := fun h F => Tx h F (some ⟨tb, 0, none⟩) d ⟨S, [], [], false⟩) (kp_rf q S) hF (f2.mono fun _ _ y => y.elim) g2 x2
  refine os (Put.add X2.so (by rw [X2.sr]; show 0 + 2 < 9; omega) fun h3 d3 => ?_)
  have X3 := X2.did (kp_tx _ _ _) (kp_rf q S) d3
  obtain ⟨G, R, hG⟩ := X3.y
  refine os ⟨_, rda (X3.sr.trans (congrArg (fun l => List.set l (0 + 2) _) X2.sr)) rfl, Rx.RxS.begin_ R fun F4 h4 f4 x4 e4 => ⟨_, rfl, ?_⟩⟩
  obtain ⟨col4, ag4, X4⟩ := X3.doc (Q' := fun h F => Rx.RxS h F (some ⟨h3.size, 0, none⟩) q ⟨S, [], [], false⟩) (kp_tx _ _ _) hG (f4.mono fun _ _ y => y.elim) ⟨fun b hb => by rw [e4 b]; exact ⟨fun y => y.elim id fun y => by omega, .inl⟩, fun b hb => x4.lt hb⟩ x4
  refine os (Put.add X4.so (by rw [X4.sr, X2.sr]; show 0 + 3 < 9; omega) fun h5 d5 => ?_)
  have X5 := X4.did (kp_tx _ _ _) (kp_rx _ _ _) d5
  have e5 : (rd h4 sb).set (0 + 3) (.pointer (some ⟨h3.size, 0, none⟩)) = sxV d q (some ⟨tb, 0, none⟩) (some ⟨h3.size, 0, none⟩) g := by rw [X4.sr, X2.sr]; rfl
  rw [e5] at X5
  have z2 := f2.size
  have z3 := d3.size
  have z4 := f4.size
  have z5 := d5.size
  exact os ⟨_, rda X5.sr rfl, hK h5 col4 _ _ ((ag2.trans (ag4.le (by omega)) z2)) (by omega) X5⟩
end
end Go.Proofs.YtjdcbblgaoogmaaGreatDoor.Sx
namespace Go.Proofs.YtjdcbblgaoogmaaGreatDoor.Sx
open Go Go.Proofs Go.Proofs.YtjdcbblgaoogmaaGreatDoor.Wx Go.Proofs.YtjdcbblgaoogmaaGreatDoor.Hp Go.Proofs.YtjdcbblgaoogmaaGreatDoor.W Go.Proofs.YtjdcbblgaoogmaaGreatDoor.Ad Go.Proofs.YtjdcbblgaoogmaaGreatDoor.Tm Go.Proofs.YtjdcbblgaoogmaaGreatDoor.Bt Go.Proofs.YtjdcbblgaoogmaaGreatDoor.Spc Go.Proofs.YtjdcbblgaoogmaaGreatDoor.Av Go.Proofs.YtjdcbblgaoogmaaGreatDoor.Tp
/-- what stands behind c steps: at most U puts -/
structure Iw (c U n : Nat) (T : TM) : Prop where
  cn : Wc.Cn (200 * (c : Int)) T.disk
  tp : T.disk.tape.length ≤ 200 * c
  pe : T.disk.pend.length ≤ 200 * c
  un : T.undo.length ≤ U
  n : T.N = n
theorem Iw.le {c c' U U' n : Nat} {T : TM} (i : Iw c U n T) (h : c ≤ c') (hU : U ≤ U') : Iw c' U' n T := ⟨i.cn.mono (by omega), by have := i.tp; omega, by have := i.pe; omega, by have := i.un; omega, i.n⟩
/-- the same disk -/
theorem Iw.same {c U n k : Nat} {T T' : TM} (i : Iw c U n T) (h : T'.disk = T.disk ∧ T'.undo.length ≤ T.undo.length + k) : Iw c (U + k) n T' := by
  have hn : T'.N = T.N := by unfold TM.N; rw [h.1]
  exact ⟨by rw [h.1]; exact i.cn, by rw [h.1]; exact i.tp, by rw [h.1]; exact i.pe, by have := i.un; omega, hn.trans i.n⟩
theorem Iw.new {L : List (List UInt8)} {n : Nat} (hn : L.length = n) : Iw 0 0 n ⟨fresh L, [], [], false⟩ := ⟨(Wc.Cn.new L).mono (by omega), Nat.zero_le _, Nat.zero_le _, Nat.zero_le _, hn⟩
theorem Iw.cut {c U n : Nat} {T : TM} (i : Iw c U n T) : Iw c U n { T with disk := if T.disk.down = true then T.disk else T.disk.cut [] } := by
  by_cases h : T.disk.down = true
  · rw [if_pos h]; exact i
  · rw [if_neg h]
    exact ⟨⟨i.cn.w0, i.cn.w1, i.cn.f0, i.cn.f1, Int.le_refl _⟩, i.tp, Nat.zero_le _, i.un, (applyTo_length _ _).trans i.n⟩
/-- a commit -/
theorem Iw.commit {c U n : Nat} {T : TM} (i : Iw c U n T) (hc : c < 200000) {h : Heap} {F : Nat → Prop} {u q : Option Addr} (x : Rx.RxS h F u q T) : Iw (c + 1) U n T.commit.1 ∧ (Wc.wal T.disk T.blocks).1.lasts.length = T.N := by
  have w := Wc.wal_cn i.cn (by omega) T.blocks
  have l := Wc.wal_len T.disk T.blocks
  have tp := i.tp
  have pe := i.pe
  refine ⟨?_, w.2⟩
  cases hl : T.over with
  | true =>
    have e0 : T.commit = (T, 61) := by unfold TM.commit; rw [hl, if_pos rfl]
    rw [e0]; exact i.le (by omega) (Nat.le_refl _)
  | false =>
    obtain ⟨M, s, y⟩ := x
    rw [s.commit hl]
    refine ⟨w.1.mono (by omega), ?_, ?_, Nat.zero_le _, w.2.trans i.n⟩
    · show (Wc.wal T.disk T.blocks).1.tape.length ≤ _; omega
    · show (Wc.wal T.disk T.blocks).1.pend.length ≤ _; omega
theorem setBit_same (T : TM) (g : G) (i : Nat) (on : Bool) : (setBit T g i on).1.disk = T.disk ∧ (setBit T g i on).1.undo.length ≤ T.undo.length + 1 := by
  unfold setBit
  split
  · exact ⟨rfl, Nat.le_succ _⟩
  · exact write_undo _ _ _
theorem takeM_same (T : TM) (g : G) : (takeM T g).1.disk = T.disk ∧ (takeM T g).1.undo.length ≤ T.undo.length + 2 := by
  unfold takeM
  split
  · rename_i m _
    unfold takeAt
    split
    · exact ⟨rfl, Nat.le_add_right _ _⟩
    · split
      · exact ⟨rfl, Nat.le_add_right _ _⟩
      · obtain ⟨a, b⟩ := setBit_same T g m true
        obtain ⟨c, d⟩ := write_undo (setBit T g m true).1 m zeros512
        exact ⟨c.trans a, by show ((setBit T g m true).1.write m zeros512).1.undo.length ≤ _; omega⟩
  · exact ⟨rfl, Nat.le_add_right _ _⟩
theorem give_same (T : TM) (g : G) (i : Int) : (give T g i).1.disk = T.disk ∧ (give T g i).1.undo.length ≤ T.undo.length + 2 := by
  have h := setBit_same T g i.toNat false
  unfold give
  split
  · exact ⟨rfl, Nat.le_add_right _ _⟩
  · split
    · exact ⟨rfl, Nat.le_add_right _ _⟩
    · split
      · exact ⟨rfl, Nat.le_add_right _ _⟩
      · exact ⟨h.1, by omega⟩
theorem sameInts_spec {a b : Option Addr} {l l2 c e : Nat} {ns : List Int} {h : Heap} {K : Value → Heap → Prop} (A : SlCells h a (Ap.intsV ns)) (B : SlCells h b (Ap.intsV ns)) (hl1 : ns.length = l) (hl2 : ns.length = l2) (hl : l ≤ 1000000000000) (hK : K (.bool true) h) : C.bolelaw09_sameInts a l c b l2 e h K := by
  refine bolelaw09_sameInts.ok (cn (fun y => absurd (show (l : Int) = l2 by omega) y) fun _ => ?_)
  refine ⟨fun i hh => ∃ j : Nat, i = j ∧ j ≤ l ∧ hh = h, fun i _ => ((l : Int) - i).toNat, ⟨0, rfl, Nat.zero_le _, rfl⟩, ?_⟩
  rintro i _ ⟨j, ei, hj, rfl⟩
  refine cd (fun hlt => ?_) fun _ => hK
  have hj' : j < ns.length := by omega
  have ein : i.toNat = j := by omega
  obtain ⟨p, rfl, cp⟩ := Ap.intsV_get A hj'
  obtain ⟨q, rfl, cq⟩ := Ap.intsV_get B hj'
  rw [ein, wrap_i64 (n := i + 1) (by omega) (by omega)]
  exact ⟨⟨by omega, hlt⟩, os ⟨_, cp, ⟨by omega, by omega⟩, os ⟨_, cq, cn (fun y => absurd rfl y) fun _ => ⟨⟨j + 1, by omega, by omega, rfl⟩, by show ((l : Int) - (i + 1)).toNat < ((l : Int) - i).toNat; omega⟩⟩⟩⟩
section
variable {h1 hh : Heap} {sb n c U : Nat} {d q t u : Option Addr} {g : G} {T : TM} {col : Nat → Nat} {K : Value → Heap → Prop}
/-- both told what is put -/
theorem wrote_spec {C2 : Option Addr → Nat → Nat → Option Addr → Nat → Nat → Heap → (Value → Heap → Prop) → Prop} (hC : ∀ {a b : Option Addr} {l l2 c e : Nat} {ns : List Int} {h : Heap} {K : Value → Heap → Prop}, SlCells h a (Ap.intsV ns) → SlCells h b (Ap.intsV ns) → ns.length = l → ns.length = l2 → l ≤ 1000000000000 → K (.bool true) h → C2 a l c b l2 e h K)
    (X : Xt h1 sb d q t u g T T hh col) (hK : ∀ h', Fr No hh h' → K (.bool true) h') :
    C.txn_Txn_Written t hh fun r3 h5 => ∃ (sA1 : Option Addr) (sL1 : Nat) (sC1 : Nat), r3 = .slice sA1 sL1 sC1 ∧ (cellOf h5 (Addr.add ⟨sb, 0, none⟩ 3) = some (.pointer u)) ∧
      C.boleref06_Txn_Written u h5 fun r4 h6 => ∃ (sA2 : Option Addr) (sL2 : Nat) (sC2 : Nat), r4 = .slice sA2 sL2 sC2 ∧ C2 sA1 sL1 sC1 sA2 sL2 sC2 h6 fun r5 h7 => ∃ (b3 : Bool), r5 = .bool b3 ∧ K (.bool b3) h7 := by
  obtain ⟨F, x, _⟩ := X.x
  obtain ⟨E0, y0, _⟩ := X.y
  have mp := most_put y0
  refine Tm.Written_spec x (by omega) fun a3 l3 c3 h3 f3 el3 s3 => ⟨_, _, _, rfl, ?_⟩
  have X3 := X.no (kp_tx _ _ _) (kp_rx _ _ _) f3
  obtain ⟨E, y, _⟩ := X3.y
  refine ⟨rda X3.sr rfl, Rx.Written_spec0 y fun a5 c5 h5 f5 s5 => ⟨_, _, _, rfl, ?_⟩⟩
  have s3' := s3.fr f5 fun _ _ _ y => y
  have e3 : T.written.length = l3 := Ap.intsV_len (vs := T.written) s3
  exact hC (ns := T.written) s3'.cells s5.cells e3 rfl (by omega) ⟨_, rfl, hK h5 (f3.no f5)⟩
theorem same_spec {i : Int} (X : Xt h1 sb d q t u g T T hh col) (hK : ∀ h', Fr No hh h' → K (.bool true) h') : C.bolelaw09_Sides_same (some ⟨sb, 0, none⟩) i hh K := by
  obtain ⟨F, x, _⟩ := X.x
  refine bolelaw09_Sides_same.ok (os ⟨_, rda X.sr rfl, Tm.Read_spec x fun a3 l3 c3 h3 f3 el3 s3 => ⟨_, _, _, _, rfl, ?_⟩⟩)
  have X3 := X.no (kp_tx _ _ _) (kp_rx _ _ _) f3
  obtain ⟨E, y, _⟩ := X3.y
  refine os ⟨_, rda X3.sr rfl, Rx.Read_spec y fun a4 l4 c4 h4 f4 el4 s4 => ⟨_, _, _, _, rfl, ct (beq_self_eq_true _) ⟨_, (s3.fr f4 fun _ _ _ y => y).str, _, s4.str, ?_⟩⟩⟩
  rw [beq_self_eq_true]; exact hK h4 (f3.no f4)
theorem alike_spec {i : Int} (X : Xt h1 sb d q t u (geoN n) T T hh col) (dm : Dim n) (hK : ∀ h', Fr No hh h' → K (.bool true) h') : C.bolelaw09_Sides_alike (some ⟨sb, 0, none⟩) i hh K := by
  have hhi := dm.hi
  have hino : (geoN n).inodes = 98 + (n + 4095) / 4096 := rfl
  have hbm : (geoN n).bitmap = 98 := rfl
  refine bolelaw09_Sides_alike.ok (os ⟨_, rda X.sr rfl, ?_⟩)
  refine ⟨fun k h2 => ∃ j : Nat, k = j ∧ j ≤ (geoN n).inodes ∧ Fr No hh h2, fun k _ => (((geoN n).inodes : Int) - k).toNat, ⟨(geoN n).bitmap, rfl, by omega, Fr.refl _ _⟩, ?_⟩
  rintro _ h2 ⟨j, rfl, hj, f2⟩
  have X2 := X.no (kp_tx _ _ _) (kp_rx _ _ _) f2
  refine os ⟨_, rda X2.sr rfl, cd (fun hlt => ?_) fun hlt => ?_⟩
  · rw [wrap_i64 (n := (j : Int) + 1) (by omega) (by omega)]
    exact same_spec X2 fun h3 f3 => ⟨_, rfl, cnot (ct rfl ⟨⟨j + 1, rfl, by omega, f2.no f3⟩, falls hlt⟩)⟩
  · refine same_spec X2 fun h3 f3 => ⟨_, rfl, ct rfl ?_⟩
    have X3 := X2.no (kp_tx _ _ _) (kp_rx _ _ _) f3
    exact os ⟨_, rda X3.sr rfl, os ⟨_, rda X3.sr rfl, wrote_spec (C2 := fun a l c b m e h K => C.bolelaw09_sameInts a l c b m e h K) (fun A B h1 h2 h3 k => sameInts_spec A B h1 h2 h3 k) X3 fun h4 f4 => hK h4 ((f2.no f3).no f4)⟩⟩
/-- both ended -/
theorem ends_spec (X : Xt h1 sb d q t u g T T hh col) (hK : ∀ h' col', Xt h1 sb d q t u g (TM.ended T.disk) (TM.ended T.disk) h' col' → K (.tuple #[]) h') :
    C.txn_Txn_Abort t hh fun r h2 => r = .tuple #[] ∧ onSome (some ⟨sb, 0, none⟩) fun p => ∃ q1 : Option Addr, cellOf h2 (Addr.add p 3) = some (.pointer q1) ∧ C.boleref06_Txn_Abort q1 h2 K := by
  obtain ⟨F, x, hF⟩ := X.x
  refine Tm.Abort_spec x fun h3 F3 f3 g3 x3 => ⟨rfl, ?_⟩
  obtain ⟨col3, ag3, X3⟩ := X.prog (P' := fun h F => Tx h F t d (TM.ended T.disk)) (kp_rx _ _ _) hF f3 g3 x3
  obtain ⟨E3, y3, hE3⟩ := X3.y
  refine os ⟨_, rda X3.sr rfl, Rx.Abort6_spec y3 fun h4 f4 y4 => ?_⟩
  obtain ⟨col4, ag4, X4⟩ := X3.doc (Q' := fun h F => Rx.RxS h F u q (TM.ended T.disk)) (kp_tx _ _ _) hE3 f4 (Gw.refl f4.size fun b hb => y3.lt hb) y4
  exact hK h4 col4 X4
/-- both cut -/
theorem crash_spec (X : Xt h1 sb d q t u g T T hh col) (hK : ∀ h' col', Xt h1 sb d q t u g { T with disk := if T.disk.down = true then T.disk else T.disk.cut [] } { T with disk := if T.disk.down = true then T.disk else T.disk.cut [] } h' col' → K (.tuple #[]) h') :
    C.adisk_Disk_Crash d none 0 0 hh fun r h2 => r = .tuple #[] ∧ onSome (some ⟨sb, 0, none⟩) fun p => ∃ q1 : Option Addr, cellOf h2 (Addr.add p 1) = some (.pointer q1) ∧ C.boleref03_Disk_Crash q1 none 0 0 h2 K := by
  obtain ⟨F, x, hF⟩ := X.x
  obtain ⟨D, dk, sub, back⟩ := x.onDisk
  have hl : (if T.disk.down = true then T.disk else T.disk.cut []).lasts.length = T.N := by
    split
    · rfl
    · exact applyTo_length _ _
  refine Wd.DiskF.crash (keep := []) dk rfl rfl (fun p e => by cases e) fun h3 f3 A3 => ⟨rfl, ?_⟩
  obtain ⟨F3, gF3, x3⟩ := back h3 D _ f3 (Gw.refl f3.size fun b hb => dk.lt hb) A3 hl
  obtain ⟨col3, ag3, X3⟩ := X.prog (P' := fun h F => Tx h F t d { T with disk := if T.disk.down = true then T.disk else T.disk.cut [] }) (kp_rx _ _ _) hF (f3.mono fun b _ y => sub b y) gF3 x3
  obtain ⟨E3, y3, hE3⟩ := X3.y
  obtain ⟨D4, rk, sub4, back4⟩ := y3.onDisk
  refine os ⟨_, rda X3.sr rfl, rk.crash (keep := []) rfl rfl (by decide) (fun p e => by cases e) fun h4 E4 f4 g4 R4 => ?_⟩
  obtain ⟨F4, gF4, y4⟩ := back4 h4 E4 _ f4 g4 R4 hl
  obtain ⟨col4, ag4, X4⟩ := X3.doc (Q' := fun h F => Rx.RxS h F u q { T with disk := if T.disk.down = true then T.disk else T.disk.cut [] }) (kp_tx _ _ _) hE3 (f4.mono fun b _ y => sub4 b y) gF4 y4
  exact hK h4 col4 X4
/-- both committed -/
theorem commits_spec (G : Re.Glo h1) (X : Xt h1 sb d q t u g T T hh col) (iv : Iw c U n T) (hU : U < 800000000) (hc : c < 200000) {Kf Kt : Heap → Prop} (hK : ∀ h' col', Xt h1 sb d q t u g T.commit.1 T.commit.1 h' col' → Iw (c + 1) U n T.commit.1 → Kt h') :
    C.txn_Txn_Commit t hh fun r h2 => ∃ n : Int, r = .int .i64 n ∧ cellOf h2 (Addr.add ⟨sb, 0, none⟩ 3) = some (.pointer u) ∧ C.boleref06_Txn_Commit u h2 fun r2 h3 => ∃ m : Int, r2 = .int .i64 m ∧ bif (n != m) then Kf h3 else Kt h3 := by
  have un := iv.un
  have tp := iv.tp
  have pe := iv.pe
  obtain ⟨F, x, hF⟩ := X.x
  obtain ⟨E, y, hE⟩ := X.y
  refine Tm.Commit_spec (G.no X.fr) x (by have := most_put y; omega) (by omega) (by omega) fun h3 F3 f3 g3 x3 => ⟨_, rfl, ?_⟩
  obtain ⟨iv3, hW⟩ := iv.commit hc y
  obtain ⟨col3, ag3, X3⟩ := X.prog (P' := fun h F => Tx h F t d T.commit.1) (kp_rx _ _ _) hF f3 g3 x3
  obtain ⟨E3, y3, hE3⟩ := X3.y
  refine ⟨rda X3.sr rfl, Rx.Commit_spec y3 (by omega) hW fun h4 E4 f4 g4 y4 => ⟨_, rfl, cn (fun y => absurd rfl y) fun _ => ?_⟩⟩
  obtain ⟨col4, ag4, X4⟩ := X3.doc (Q' := fun h F => Rx.RxS h F u q T.commit.1) (kp_tx _ _ _) hE3 f4 g4 y4
  exact hK h4 col4 X4 iv3
theorem geo_cells {P Q : Heap → (Nat → Prop) → Prop} (X : Sx h1 sb (sxV d q t u g) P Q hh col) : Cells hh (Addr.add ⟨sb, 0, none⟩ 4) g.v := Cells.part (cellsAll X.sr) 4 5
end
/-- a call of the script -/
structure Op9 where
  kind : Int
  n : Int
  x : UInt8
def Op9.cells (o : Op9) : List Value := [.int .i64 o.kind, .int .i64 o.n, bv o.x]
section
variable {h1 hh : Heap} {sb n c U : Nat} {d q t u : Option Addr} {T : TM} {col : Nat → Nat} {K : Value → Heap → Prop}
theorem plays9_k1 (X : Xt h1 sb d q t u (geoN n) T T hh col) (iv : Iw c U n T) (hK : ∀ h' col' d' q' t' u' T', Xt h1 sb d' q' t' u' (geoN n) T' T' h' col' → Iw (c + 1) (U + 2) n T' → K (.bool true) h') : bolelaw09_Sides_plays.k1 (some ⟨sb, 0, none⟩) hh K := by
  unfold bolelaw09_Sides_plays.k1
  refine os ⟨_, rda X.sr rfl, ends_spec X fun h2 col2 X2 => ⟨rfl, begins_spec (disks X2) fun h3 col3 t' u' _ _ X3 => ⟨_, rfl, hK h3 col3 d q t' u' _ X3 ?_⟩⟩⟩
  exact (iv.le (Nat.le_succ c) (Nat.le_refl _)).same (k := 2) (T' := ⟨T.disk, [], [], false⟩) ⟨rfl, Nat.zero_le _⟩
theorem plays_spec {o : Op9} (G : Re.Glo h1) (X : Xt h1 sb d q t u (geoN n) T T hh col) (dm : Dim n) (iv : Iw c U n T) (hc : c < 200000) (hU : U < 800000000) (ok : o.n ≤ 9223372036854775807)
    (hK : ∀ h' col' d' q' t' u' T', Xt h1 sb d' q' t' u' (geoN n) T' T' h' col' → Iw (c + 1) (U + 2) n T' → K (.bool true) h') : C.bolelaw09_Sides_plays (some ⟨sb, 0, none⟩) o.cells hh K := by
  have kp := kp_tx t d T
  have kq := kp_rx u q T
  have un := iv.un
  have tp := iv.tp
  have pe := iv.pe
  have hN : 98 ≤ T.N := by have := iv.n; have := dm.lo; omega
  refine bolelaw09_Sides_plays.ok (New.intro fun h2 n2 => ⟨_, rda n2.rd rfl, ?_⟩)
  have X2 := X.no kp kq n2.fr
  have z2 := n2.size
  have c0 : col hh.size = 0 := X.nrm _ (Nat.le_refl _)
  obtain ⟨F, x, hF⟩ := X2.x
  have nF : ¬ F hh.size := fun y => by have := hF _ y; omega
  have next := iv.le (Nat.le_succ c) (Nat.le_refl U)
  have next2 := iv.le (c' := c + 1) (U' := U + 2) (Nat.le_succ c) (by omega)
  -- Take
  refine ce (fun _ => os ⟨_, rda X2.sr rfl, os ⟨(geoN n).v, rfl, geo_cells X2, Take_any x dm (by omega) fun h3 F3 f3 g3 x3 => ⟨_, _, rfl, ?_⟩⟩⟩) fun _ => ?_
  · obtain ⟨col3, ag3, X3⟩ := X2.prog (P' := fun h F => Tx h F t d (takeM T (geoN n)).1) kq hF f3 g3 x3
    obtain ⟨E3, y3, hE3⟩ := X3.y
    refine os ⟨_, rda X3.sr rfl, os ⟨(geoN n).v, rfl, geo_cells X3, Ry.Take_spec y3 dm hN (by omega) fun h4 F4 f4 g4 y4 => ⟨_, _, rfl, ct (beq_self_eq_true _) (ct (beq_self_eq_true _) ?_)⟩⟩⟩
    obtain ⟨col4, ag4, X4⟩ := X3.doc (Q' := fun h F => Rx.RxS h F u q (takeM T (geoN n)).1) (kp_tx _ _ _) hE3 f4 g4 y4
    exact alike_spec X4 dm fun h5 f5 => ⟨_, rfl, hK h5 col4 d q t u _ (X4.no (kp_tx _ _ _) (kp_rx _ _ _) f5) (next.same (takeM_same _ _))⟩
  -- Give
  refine ce (fun _ => os ⟨_, rda X2.sr rfl, os ⟨(geoN n).v, rfl, geo_cells X2, _, rda n2.rd rfl, Spc.Give_spec x (geoN_ok dm.hi) (by omega) fun h3 F3 f3 g3 x3 => ⟨_, rfl, ?_⟩⟩⟩) fun _ => ?_
  · obtain ⟨col3, ag3, X3⟩ := X2.prog (P' := fun h F => Tx h F t d (give T (geoN n) o.n).1) kq hF f3 g3 x3
    obtain ⟨E3, y3, hE3⟩ := X3.y
    have o3 : rd h3 hh.size = o.cells := (f3.rd (by omega) nF).trans n2.rd
    have nE3 : ¬ E3 hh.size := fun w => by have := hE3 _ w; have := ag3 hh.size (by omega); omega
    have z3 := f3.size
    refine os ⟨_, rda X3.sr rfl, os ⟨(geoN n).v, rfl, geo_cells X3, _, rda o3 rfl, Ry.Give_spec y3 dm hN (by omega) fun h4 F4 f4 g4 y4 => ⟨_, rfl, ct (beq_self_eq_true _) ⟨_, rda ((f4.rd (by omega) nE3).trans o3) rfl, ?_⟩⟩⟩⟩
    obtain ⟨col4, ag4, X4⟩ := X3.doc (Q' := fun h F => Rx.RxS h F u q (give T (geoN n) o.n).1) (kp_tx _ _ _) hE3 f4 g4 y4
    exact alike_spec X4 dm fun h5 f5 => ⟨_, rfl, hK h5 col4 d q t u _ (X4.no (kp_tx _ _ _) (kp_rx _ _ _) f5) (next.same (give_same _ _ _))⟩
  -- Used
  refine ce (fun _ => os ⟨_, rda X2.sr rfl, os ⟨(geoN n).v, rfl, geo_cells X2, _, rda n2.rd rfl, Sy.Used_any x (geoN_ok dm.hi) fun h3 f3 => ⟨_, _, rfl, ?_⟩⟩⟩) fun _ => ?_
  · have X3 := X2.no kp kq f3
    obtain ⟨E3, y3, hE3⟩ := X3.y
    have o3 : rd h3 hh.size = o.cells := (f3.rd (by omega) fun y => y).trans n2.rd
    have z3 := f3.size
    refine os ⟨_, rda X3.sr rfl, os ⟨(geoN n).v, rfl, geo_cells X3, _, rda o3 rfl, Sy.Used6_spec y3 dm fun h4 f4 => ⟨_, _, rfl, ct (beq_self_eq_true _) (ct (beq_self_eq_true _) ⟨_, rda ((f4.rd (by omega) fun y => y).trans o3) rfl, ?_⟩)⟩⟩⟩
    have X4 := X3.no kp kq f4
    exact alike_spec X4 dm fun h5 f5 => ⟨_, rfl, hK h5 col d q t u _ (X4.no kp kq f5) next2⟩
  -- Free
  refine ce (fun _ => os ⟨_, rda X2.sr rfl, os ⟨(geoN n).v, rfl, geo_cells X2, Sy.Free_any x (geoN_ok dm.hi) (by show 98 ≤ 98 + _; omega) fun r3 h3 R3 f3 => ⟨_, _, rfl, ?_⟩⟩⟩) fun _ => ?_
  · have X3 := X2.no kp kq f3
    obtain ⟨E3, y3, hE3⟩ := X3.y
    have o3 : rd h3 hh.size = o.cells := (f3.rd (by omega) fun y => y).trans n2.rd
    have z3 := f3.size
    refine os ⟨_, rda X3.sr rfl, os ⟨(geoN n).v, rfl, geo_cells X3, Sy.Free6_spec y3 dm fun r4 h4 R4 f4 => ⟨_, _, rfl, ?_⟩⟩⟩
    rw [R4.one R3]
    refine ct (beq_self_eq_true _) (ct (beq_self_eq_true _) ⟨_, rda ((f4.rd (by omega) fun y => y).trans o3) rfl, ?_⟩)
    have X4 := X3.no kp kq f4
    exact alike_spec X4 dm fun h5 f5 => ⟨_, rfl, hK h5 col d q t u _ (X4.no kp kq f5) next2⟩
  -- Read
  refine ce (fun _ => ⟨_, rda n2.rd rfl, same_spec X2 fun h3 f3 => ⟨_, rfl, hK h3 col d q t u _ (X2.no kp kq f3) next2⟩⟩) fun _ => ?_
  -- Put
  refine ce (fun _ => os ⟨_, rda X2.sr rfl, _, rda n2.rd rfl, _, rda n2.rd rfl, os ⟨_, rda X2.sr rfl, _, rda n2.rd rfl, _, rda n2.rd rfl, block9_spec fun h3 f3 z3 B3 => ⟨_, _, _, rfl, ?_⟩⟩⟩) fun _ => ?_
  · have X3 := X2.no kp kq f3
    obtain ⟨F3, x3, hF3⟩ := X3.x
    have o3 : rd h3 hh.size = o.cells := (f3.rd (by omega) fun y => y).trans n2.rd
    refine ⟨rda X3.sr rfl, rda o3 rfl, rda X3.sr rfl, rda o3 rfl, rda o3 rfl, Tm.Write_spec x3 B3 (by decide) (fun p e y => by cases e; exact absurd ((hF3 _ y).symm.trans (X.nrm h2.size (by omega))) (by decide)) (by omega) fun h4 F4 f4 g4 x4 => ⟨_, rfl, ?_⟩⟩
    obtain ⟨col4, ag4, X4⟩ := X3.prog (P' := fun h F => Tx h F t d (T.write o.n (List.replicate 512 o.x)).1) kq hF3 f4 g4 x4
    have nF3 : ¬ F3 hh.size := fun y => by have := hF3 _ y; omega
    have z4 := f4.size
    have o4 : rd h4 hh.size = o.cells := (f4.rd (by omega) nF3).trans o3
    refine ⟨rda X4.sr rfl, rda o4 rfl, rda o4 rfl, block9_spec fun h5 f5 z5 B5 => ⟨_, _, _, rfl, ?_⟩⟩
    have X5 := X4.no (kp_tx _ _ _) kq f5
    obtain ⟨E5, y5, hE5⟩ := X5.y
    have o5 : rd h5 hh.size = o.cells := (f5.rd (by omega) fun y => y).trans o4
    refine ⟨rda X5.sr rfl, rda o5 rfl, Rx.Write_spec0 y5 B5 (by omega) fun h6 E6 f6 g6 y6 => ⟨_, rfl, ?_⟩⟩
    obtain ⟨col6, ag6, X6⟩ := X5.doc (Q' := fun h F => Rx.RxS h F u q (T.write o.n (List.replicate 512 o.x)).1) (kp_tx _ _ _) hE5 f6 g6 y6
    rw [beq_self_eq_true]
    have w := write_undo T o.n (List.replicate 512 o.x)
    exact hK h6 col6 d q t u _ X6 (next.same ⟨w.1, by omega⟩)
  -- Written
  refine ce (fun _ => os ⟨_, rda X2.sr rfl, os ⟨_, rda X2.sr rfl, wrote_spec (C2 := fun a l c b m e h K => C.bolelaw09_sameInts a l c b m e h K) (fun A B h1 h2 h3 k => sameInts_spec A B h1 h2 h3 k) X2 fun h4 f4 => hK h4 col d q t u _ (X2.no kp kq f4) next2⟩⟩) fun _ => ?_
  -- End
  refine ce (fun _ => ⟨_, rda n2.rd rfl, ce (fun _ => os ⟨_, rda X2.sr rfl, os ⟨_, rda X2.sr rfl, ?_⟩⟩) fun _ => plays9_k1 X2 iv hK⟩) fun _ => ?_
  · refine commits_spec G X2 iv hU hc fun h3 col3 X3 iv3 => ?_
    unfold bolelaw09_Sides_plays.k1
    refine os ⟨_, rda X3.sr rfl, ends_spec X3 fun h4 col4 X4 => ⟨rfl, begins_spec (disks X4) fun h5 col5 t' u' _ _ X5 => ⟨_, rfl, hK h5 col5 d q t' u' _ X5 ?_⟩⟩⟩
    exact iv3.same (k := 2) (T' := ⟨T.commit.1.disk, [], [], false⟩) ⟨rfl, Nat.zero_le _⟩
  -- Over
  refine ce (fun _ => os ⟨_, rda X2.sr rfl, ends_spec X2 fun h3 col3 X3 => ⟨rfl, hK h3 col3 d q t u _ X3 (next.same (k := 2) (T' := TM.ended T.disk) ⟨rfl, Nat.zero_le _⟩)⟩⟩) fun _ => ?_
  -- Cut
  refine ce (fun _ => os ⟨_, rda X2.sr rfl, crash_spec X2 fun h3 col3 X3 => ⟨rfl, hK h3 col3 d q t u _ X3 next2.cut⟩⟩) fun _ => hK h2 col d q t u _ X2 next2
end
end Go.Proofs.YtjdcbblgaoogmaaGreatDoor.Sx
namespace Go.Proofs.YtjdcbblgaoogmaaGreatDoor.Sx
open Go Go.Proofs Go.Proofs.YtjdcbblgaoogmaaGreatDoor.Wx Go.Proofs.YtjdcbblgaoogmaaGreatDoor.Hp Go.Proofs.YtjdcbblgaoogmaaGreatDoor.W Go.Proofs.YtjdcbblgaoogmaaGreatDoor.Ad Go.Proofs.YtjdcbblgaoogmaaGreatDoor.Tm Go.Proofs.YtjdcbblgaoogmaaGreatDoor.Bt Go.Proofs.YtjdcbblgaoogmaaGreatDoor.Spc Go.Proofs.YtjdcbblgaoogmaaGreatDoor.Av Go.Proofs.YtjdcbblgaoogmaaGreatDoor.Tp
theorem or_byte : ∀ n : Fin 256, ∀ s : Fin 8, 0 ≤ bitsI .or .u8 (n.val : Int) (IntKind.wrap .u8 (1 * 2 ^ min s.val 8)) ∧ bitsI .or .u8 (n.val : Int) (IntKind.wrap .u8 (1 * 2 ^ min s.val 8)) < 256 := by decide +kernel
theorem byte_of {v : Int} (h : 0 ≤ v ∧ v < 256) : (Value.int .u8 v) = bv (UInt8.ofNat v.toNat) := by
  have := Hd.bv_wrap v
  have e : v % 256 = v := by omega
  rw [e] at this
  rw [← this]
  congr 1
  unfold IntKind.wrap IntKind.signed IntKind.bits
  simp only [Bool.false_and, Bool.false_eq_true, if_false]
  omega
theorem mod9_spec {v n : Int} {h : Heap} {K : Value → Heap → Prop} (h0 : 0 < n) (hn : n ≤ 4611686018427387904) (hK : K (.int .i64 (Wc.modI v n)) h) : C.bolelaw09_mod v n h K := by
  have h1 := Int.tmod_lt_of_pos v h0
  have h2 := Int.lt_tmod_of_pos v h0
  refine bolelaw09_mod.ok ?_
  unfold bolelaw09_mod
  rw [if_neg (by omega)]
  unfold Wc.modI at hK
  refine cd (fun hlt => ?_) fun hlt => ?_
  · rw [if_pos hlt] at hK
    rw [wrap_i64 (by omega) (by omega)]; exact hK
  · rw [if_neg hlt] at hK; exact hK
/-- a case -/
structure Cs where
  n : Int
  ba : Option Addr
  bl : Nat
  bc : Nat
  bs : List UInt8
  rest : UInt8
  sa : Option Addr
  sc : Nat
  ops : List Op9
def Cs.cells (c : Cs) : List Value := [.int .i64 c.n, .slice c.ba c.bl c.bc, bv c.rest, .slice c.sa c.ops.length c.sc]
def nB (v : Int) : Nat := (if Wc.modI v 200 < 180 then 128 + Wc.modI v 200 else if Wc.modI v 200 < 190 then 4096 + Wc.modI v 200 - 185 else 8192 + Wc.modI v 200 - 195).toNat
theorem nB_dim (v : Int) : Dim (nB v) := by
  have hr := Wc.modI_range (v := v) (n := 200) (by decide)
  unfold nB
  constructor <;> (split <;> (try split) <;> omega)
theorem blocks_spec {c : Cs} {h : Heap} {K : Value → Heap → Prop} (hK : ∀ h', Fr No h h' → K (.int .i64 (nB c.n)) h') : C.bolelaw09_Case_blocks c.cells h K := by
  have hr := Wc.modI_range (v := c.n) (n := 200) (by decide)
  refine bolelaw09_Case_blocks.ok (New.intro fun h2 n2 => ⟨_, rda n2.rd rfl, mod9_spec (by decide) (by decide) ⟨_, rfl, ?_⟩⟩)
  have hK := hK h2 n2.fr
  unfold nB at hK
  refine cd (fun h1 => ?_) fun h1 => cd (fun h3 => ?_) fun h3 => ?_
  · rw [if_pos h1] at hK
    rw [wrap_i64 (by omega) (by omega)]
    rw [show (((128 + Wc.modI c.n 200).toNat : Nat) : Int) = 128 + Wc.modI c.n 200 by omega] at hK
    exact hK
  · rw [if_neg h1, if_pos h3] at hK
    rw [wrap_i64 (n := 4096 + Wc.modI c.n 200) (by omega) (by omega), wrap_i64 (by omega) (by omega)]
    rw [show (((4096 + Wc.modI c.n 200 - 185).toNat : Nat) : Int) = 4096 + Wc.modI c.n 200 - 185 by omega] at hK
    exact hK
  · rw [if_neg h1, if_neg h3] at hK
    rw [wrap_i64 (n := 8192 + Wc.modI c.n 200) (by omega) (by omega), wrap_i64 (by omega) (by omega)]
    rw [show (((8192 + Wc.modI c.n 200 - 195).toNat : Nat) : Int) = 8192 + Wc.modI c.n 200 - 195 by omega] at hK
    exact hK
/-- how an image stands -/
structure Im (c : Cs) (n : Nat) (h h4 h6 hh : Heap) : Prop where
  fr : Fr No h hh
  sz : h6.size < hh.size
  rc : rd hh h.size = c.cells
  rg : rd hh h4.size = (geoN n).v
  ow : Own hh h6.size
  bs : ∃ bs : List UInt8, bs.length = n * 512 ∧ rd hh h6.size = bs.map bv
section
variable {c : Cs} {n : Nat} {h h4 h6 hh : Heap}
theorem Im.put (X : Im c n h h4 h6 hh) (hz : h.size < h4.size ∧ h4.size < h6.size) {i : Nat} {x : UInt8} (hi : i < n * 512) {k : Heap → Prop} (hK : ∀ h', Im c n h h4 h6 h' → k h') : Put (Addr.add ⟨h6.size, 0, none⟩ i) (bv x) hh k := by
  obtain ⟨bs, e1, e2⟩ := X.bs
  refine Put.add X.ow (by rw [e2, List.length_map]; omega) fun h' d => hK h' ⟨X.fr.did d fun y => by omega, by rw [d.size]; exact X.sz, (d.at_ (by have := X.sz; omega) (by omega)).trans X.rc, (d.at_ (by have := X.sz; omega) (by omega)).trans X.rg, d.own, bs.set i x, by rw [List.length_set, e1], ?_⟩
  rw [d.rd, e2, Nat.zero_add, List.map_set]
variable {N2 j : Nat} {K : Value → Heap → Prop}
theorem image_k3 {on : Bool} (X : Im c n h h4 h6 hh) (dm : Dim n) (hz : h.size < h4.size ∧ h4.size < h6.size) (hN : N2 = ((geoN n).inodes - 98) * 4096) (hj : j < N2) :
    bolelaw09_Case_image.k3 n h4 h6 j hh (fun i h2 => ∃ m : Nat, i = m ∧ m ≤ N2 ∧ Im c n h h4 h6 h2) (fun i _ => ((N2 : Int) - i).toNat) on K := by
  have hi := dm.hi
  have hino : (geoN n).inodes = 98 + (n + 4095) / 4096 := rfl
  obtain ⟨dd1, dd2, dd3, dd4⟩ := dm.data
  have hbm : (((geoN n).bitmap : Nat) : Int) = 98 := rfl
  have step : ∀ {h2 : Heap}, Im c n h h4 h6 h2 → (∃ m : Nat, (j : Int) + 1 = m ∧ m ≤ N2 ∧ Im c n h h4 h6 h2) ∧ ((N2 : Int) - ((j : Int) + 1)).toNat < ((N2 : Int) - (j : Int)).toNat := fun Y => ⟨⟨j + 1, rfl, hj, Y⟩, by omega⟩
  unfold bolelaw09_Case_image.k3
  rw [wrap_i64 (n := (j : Int) + 1) (by omega) (by omega)]
  refine cs (fun _ => ⟨_, rda X.rg rfl, ?_⟩) fun _ => step X
  have e8 : IntKind.wrap .i64 (Int.tdiv (j : Int) 8) = ((j / 8 : Nat) : Int) := by rw [show Int.tdiv (j : Int) 8 = ((j / 8 : Nat) : Int) from rfl]; exact wrap_i64 (by omega) (by omega)
  have em8 : Int.tmod (j : Int) 8 = ((j % 8 : Nat) : Int) := rfl
  rw [hbm, wrap_i64 (n := 98 * 512) (by decide) (by decide), e8, wrap_i64 (n := 98 * 512 + ((j / 8 : Nat) : Int)) (by omega) (by omega), em8, Int.toNat_natCast]
  have en : ((Int.toNat (IntKind.wrap .i64 ((n : Int) * 512)) : Nat) : Int) = (n : Int) * 512 := by rw [wrap_i64 (n := (n : Int) * 512) (by omega) (by omega)]; omega
  have hlt : 98 * 512 + j / 8 < n * 512 := by omega
  have et : ((98 : Int) * 512 + ((j / 8 : Nat) : Int)).toNat = 98 * 512 + j / 8 := by omega
  rw [en, et]
  obtain ⟨bs, e1, e2⟩ := X.bs
  have hy : (bs.getD (98 * 512 + j / 8) 0).toNat < 256 := UInt8.toNat_lt _
  refine ⟨⟨by omega, by omega⟩, ((bs.getD (98 * 512 + j / 8) 0).toNat : Int), ?_, ?_⟩
  · refine rda e2 ?_
    show (bs.map bv)[0 + (98 * 512 + j / 8)]? = some (bv (bs.getD (98 * 512 + j / 8) 0))
    rw [Nat.zero_add, List.getElem?_map, List.getElem?_eq_getElem (by omega), List.getD_eq_getElem?_getD, List.getElem?_eq_getElem (by omega)]; rfl
  · rw [if_neg (by omega)]
    refine ⟨⟨by omega, by omega⟩, ?_⟩
    have ob := or_byte ⟨_, hy⟩ ⟨j % 8, Nat.mod_lt _ (by decide)⟩
    rw [byte_of ob]
    exact X.put hz hlt fun h' Y => step Y
theorem image_k2 {x : Int} (X : Im c n h h4 h6 hh) (dm : Dim n) (hz : h.size < h4.size ∧ h4.size < h6.size) (hN : N2 = ((geoN n).inodes - 98) * 4096) (hj : j < N2) (hd : (geoN n).data ≤ j) :
    bolelaw09_Case_image.k2 n h4 h6 j hh (fun i h2 => ∃ m : Nat, i = m ∧ m ≤ N2 ∧ Im c n h h4 h6 h2) (fun i _ => ((N2 : Int) - i).toNat) (geoN n).data x K := by
  have hi := dm.hi
  have hino : (geoN n).inodes = 98 + (n + 4095) / 4096 := rfl
  unfold bolelaw09_Case_image.k2
  rw [wrap_i64 (n := (j : Int) - ((geoN n).data : Nat)) (by omega) (by omega), if_neg (by rw [show (j : Int) - ((geoN n).data : Nat) = ((j - (geoN n).data : Nat) : Int) by omega, show Int.tmod ((j - (geoN n).data : Nat) : Int) 8 = (((j - (geoN n).data) % 8 : Nat) : Int) from rfl]; omega)]
  exact image_k3 X dm hz hN hj
theorem image_k1 {on : Bool} (B : StrAt h c.ba c.bl c.bs) (X : Im c n h h4 h6 hh) (dm : Dim n) (hz : h.size < h4.size ∧ h4.size < h6.size) (hN : N2 = ((geoN n).inodes - 98) * 4096) (hj : j < N2) (hd : on = false → (geoN n).data ≤ j) :
    bolelaw09_Case_image.k1 h n h4 h6 j hh (fun i h2 => ∃ m : Nat, i = m ∧ m ≤ N2 ∧ Im c n h h4 h6 h2) (fun i _ => ((N2 : Int) - i).toNat) on K := by
  have hi := dm.hi
  have hino : (geoN n).inodes = 98 + (n + 4095) / 4096 := rfl
  unfold bolelaw09_Case_image.k1
  refine cnot (cs (fun _ => image_k3 X dm hz hN hj) fun ho => ?_)
  have hd := hd ho
  refine ⟨_, rda X.rg rfl, (c.rest.toNat : Int), rda X.rc rfl, _, _, _, rda X.rc rfl, ?_⟩
  rw [wrap_i64 (n := (j : Int) - ((geoN n).data : Nat)) (by omega) (by omega)]
  have e8 : Int.tdiv ((j : Int) - ((geoN n).data : Nat)) 8 = (((j - (geoN n).data) / 8 : Nat) : Int) := by rw [show (j : Int) - ((geoN n).data : Nat) = ((j - (geoN n).data : Nat) : Int) by omega]; rfl
  rw [e8, wrap_i64 (n := (((j - (geoN n).data) / 8 : Nat) : Int)) (by omega) (by omega), Int.toNat_natCast]
  refine cd (fun hlt => ⟨_, _, _, rda X.rc rfl, ⟨by omega, hlt⟩, ?_⟩) fun _ => image_k2 X dm hz hN hj hd
  have B' := StrAt.fr X.fr B fun _ _ y => y
  obtain ⟨p, ep, cp⟩ := cell_at B' (j := (j - (geoN n).data) / 8) (by rw [B'.1]; omega)
  exact Rz.oe ep ⟨_, cp, image_k2 X dm hz hN hj hd⟩
theorem image_spec (B : StrAt h c.ba c.bl c.bs) (hK : ∀ h' b bs, Fr No h h' → h.size ≤ b → b < h'.size → bs.length = nB c.n * 512 → StrAt h' (some ⟨b, 0, none⟩) (nB c.n * 512) bs → K (.slice (some ⟨b, 0, none⟩) (nB c.n * 512) (nB c.n * 512)) h') : C.bolelaw09_Case_image c.cells h K := by
  have dm := nB_dim c.n
  refine bolelaw09_Case_image.ok (New.intro fun h2 n2 => ⟨c.cells, rfl, cellsAll n2.rd, blocks_spec fun h3 f3 => ⟨_, rfl, ?_⟩⟩)
  generalize nB c.n = n at hK dm
  have hi := dm.hi
  have hino : (geoN n).inodes = 98 + (n + 4095) / 4096 := rfl
  obtain ⟨dd1, dd2, dd3, dd4⟩ := dm.data
  have en : IntKind.wrap .i64 ((n : Int) * 512) = ((n * 512 : Nat) : Int) := by rw [wrap_i64 (n := (n : Int) * 512) (by omega) (by omega)]; omega
  refine Geo_spec (by omega) fun h4 f4 => ⟨_, rfl, NewRow.intro rfl (G.one _) rfl fun h6 n6 => ?_⟩
  rw [en, Int.toNat_natCast]
  refine ⟨⟨by omega, by omega, by omega, by omega⟩, New.intro fun h7 n7 => ⟨_, rda ((n7.at_ n6.own.lt).trans n6.rd) rfl, ?_⟩⟩
  have z2 := n2.size
  have z3 := f3.size
  have z4 := f4.size
  have z6 := n6.size
  have z7 := n7.size
  have f6 : Fr No h h6 := ((n2.fr.no f3).no f4).new n6
  have hz : h.size < h4.size ∧ h4.size < h6.size := by omega
  have X7 : Im c n h h4 h6 h7 := ⟨f6.new n7, by omega, (n7.at_ (by omega)).trans ((n6.at_ (by omega)).trans ((f4.rd (by omega) fun y => y).trans ((f3.rd (by omega) fun y => y).trans n2.rd))), (n7.at_ n6.own.lt).trans n6.rd, n7.own, List.replicate (n * 512) 0, List.length_replicate, n7.rd.trans (by rw [show (z5 : List Value) = [bv 0] from rfl, Spc.rep_one, List.map_replicate])⟩
  have ed : IntKind.wrap .i64 ((((geoN n).data : Nat) : Int) * 512) = (((geoN n).data * 512 : Nat) : Int) := by rw [wrap_i64 (n := (((geoN n).data : Nat) : Int) * 512) (by omega) (by omega)]; omega
  rw [ed]
  refine ⟨fun i h2 => ∃ m : Nat, i = m ∧ m ≤ n * 512 ∧ Im c n h h4 h6 h2, fun i _ => (((n * 512 : Nat) : Int) - i).toNat, ⟨_, rfl, by omega, X7⟩, ?_⟩
  rintro _ h8 ⟨m, rfl, hm, X8⟩
  refine cd (fun hlt => ?_) fun hlt => ?_
  · rw [wrap_i64 (n := (m : Int) + 1) (by omega) (by omega), Int.toNat_natCast]
    exact ⟨⟨by omega, hlt⟩, X8.put (x := 7) hz (by omega) fun h9 X9 => ⟨⟨m + 1, rfl, by omega, X9⟩, falls hlt⟩⟩
  clear hlt hm m
  obtain ⟨N2, hN⟩ : ∃ N2, N2 = ((geoN n).inodes - 98) * 4096 := ⟨_, rfl⟩
  refine ⟨fun i h2 => ∃ m : Nat, i = m ∧ m ≤ N2 ∧ Im c n h h4 h6 h2, fun i _ => ((N2 : Int) - i).toNat, ⟨0, rfl, Nat.zero_le _, X8⟩, ?_⟩
  rintro _ h10 ⟨j, rfl, hj, X⟩
  refine ⟨_, rda X.rg rfl, _, rda X.rg rfl, ?_⟩
  have hbm : (((geoN n).bitmap : Nat) : Int) = 98 := rfl
  have e2 : IntKind.wrap .i64 (IntKind.wrap .i64 ((((geoN n).inodes : Nat) : Int) - (((geoN n).bitmap : Nat) : Int)) * 4096) = (N2 : Int) := by
    rw [hbm, wrap_i64 (n := (((geoN n).inodes : Nat) : Int) - 98) (by omega) (by omega), wrap_i64 (by omega) (by omega)]; omega
  rw [e2]
  refine cd (fun hlt => ⟨_, rda X.rg rfl, cd (fun h1 => ?_) fun h1 => ?_⟩) fun hlt => ?_
  · exact image_k1 B X dm hz hN (by omega) fun y => by cases y
  · exact image_k1 B X dm hz hN (by omega) fun _ => by omega
  · obtain ⟨bs, e1, e2⟩ := X.bs
    exact hK h10 h6.size bs X.fr (by omega) X.sz e1 (strAll e2 e1)
end
section
variable {h1 hh : Heap} {sb n : Nat} {c : Cs} {K : Value → Heap → Prop}
theorem op9_cell {h : Heap} {a : Option Addr} {xs : List Op9} (A : SlCells h a (xs.flatMap Op9.cells)) {j : Nat} (hj : j < xs.length) : ∃ p, a = some p ∧ Cells h (p.add (j * 3)) xs[j].cells := by
  have hl := flat_length Op9.cells 3 xs fun _ _ => rfl
  cases a with
  | none => have A : xs.flatMap Op9.cells = [] := A; rw [A] at hl; exact absurd hl (by simp; omega)
  | some p =>
    refine ⟨p, rfl, ?_⟩
    have := Cells.part A (j * 3) 3
    rw [flat_part Op9.cells 3 xs (fun _ _ => rfl) j hj] at this
    exact this
theorem steps_k3 {d q t u : Option Addr} {h7 : Heap} {T : TM} {col : Nat → Nat} (X : Xt h1 h7.size d q t u (geoN n) T T hh col) (hK : K (.bool true) hh) : bolelaw09_SpacePlays.k3 h7 hh K := by
  unfold bolelaw09_SpacePlays.k3
  have Y := disks X
  obtain ⟨D, A, _⟩ := Y.x
  obtain ⟨E, R, _⟩ := Y.y
  obtain ⟨rb, aa, ac, er, _, _, f4, f5, f6⟩ := R.fields
  refine ⟨_, rda Y.sr rfl, Wc.diskSteps A ⟨_, _, rfl, _, rda Y.sr rfl, ?_⟩⟩
  rw [er]
  refine os ⟨_, f5, ct (beq_self_eq_true _) ⟨_, rda Y.sr (by rw [er]; rfl), os ⟨_, f6, ?_⟩⟩⟩
  rw [beq_self_eq_true]; exact hK
theorem SpacePlays_spec {h : Heap} (G : Re.Glo h) (B : StrAt h c.ba c.bl c.bs) (S : SlCells h c.sa (c.ops.flatMap Op9.cells)) (ok : ∀ o ∈ c.ops, o.n ≤ 9223372036854775807) (hK : ∀ h', Fr No h h' → K (.bool true) h') : C.bolelaw09_SpacePlays c.cells h K := by
  refine bolelaw09_SpacePlays.ok (New.intro fun h2 n2 => ⟨c.cells, rfl, cellsAll n2.rd, image_spec (StrAt.fr n2.fr B fun _ _ y => y) fun h3 b bs f3 hb0 hb1 hbs B3 => ⟨_, _, _, rfl, ?_⟩⟩)
  have dm := nB_dim c.n
  generalize en : nB c.n = n at hbs B3 dm
  have hi := dm.hi
  have lo := dm.lo
  have z2 := n2.size
  have z3 := f3.size
  have ok2 : ¬ (n * 512 % 512 ≠ 0 ∨ n * 512 = 0 ∨ 16384 < n * 512 / 512) := by omega
  refine openF_spec B3 (Nat.le_refl _) (by omega) (fun y => absurd y ok2) fun _ _ _ q8 h4 D4 f4 ge4 A4 => ⟨_, _, rfl, ?_⟩
  refine Rf.RfS.of (StrAt.fr f4 B3 fun _ _ y => y) (by omega) (fun y => absurd y ok2) fun _ _ _ q9 h5 E5 f5 ge5 R5 => ⟨_, _, rfl, cn (fun y => absurd rfl y) fun _ => cf rfl (cf rfl ?_)⟩
  unfold bolelaw09_SpacePlays.k1
  have z4 := f4.size
  have z5 := f5.size
  have f25 : Fr No h2 h5 := (f3.no f4).no f5
  have r5 : rd h5 h.size = c.cells := (f25.rd (by omega) fun y => y).trans n2.rd
  refine ⟨c.cells, rfl, cellsAll r5, blocks_spec fun h6 f6 => ⟨_, rfl, ?_⟩⟩
  rw [en]
  refine Geo_spec (by omega) fun h7 f7 => ⟨_, rfl, rfl, New.intro fun h8 n8 => ?_⟩
  have z6 := f6.size
  have z7 := f7.size
  have z8 := n8.size
  have f68 : Fr No h5 h8 := (f6.no f7).new n8
  have A8 := (A4.no f5).no f68
  have R8 := R5.no f68
  obtain ⟨col, k1, k2, k3, k0⟩ : ∃ col : Nat → Nat, col h7.size = 1 ∧ (∀ b, D4 b → col b = 2) ∧ (∀ b, E5 b → col b = 3) ∧ ∀ b, b ≠ h7.size → ¬ D4 b → ¬ E5 b → col b = 0 := by
    refine ⟨fun b => if b = h7.size then 1 else @ite _ (D4 b) (Classical.propDecidable _) 2 (@ite _ (E5 b) (Classical.propDecidable _) 3 0), if_pos rfl, fun b y => ?_, fun b y => ?_, fun b y1 y2 y3 => ?_⟩
    · show (if b = h7.size then 1 else _) = 2
      rw [if_neg (by have := A4.lt y; omega), if_pos y]
    · show (if b = h7.size then 1 else _) = 3
      rw [if_neg (by have := R5.lt y; omega), if_neg (fun w => by have := A4.lt w; have := ge5 b y; omega), if_pos y]
    · show (if b = h7.size then 1 else _) = 0
      rw [if_neg y1, if_neg y2, if_neg y3]
  have X : Xd h2 h7.size (some q8) (some q9) none none (geoN n) (fresh (chunks bs)) h8 col :=
    ⟨f25.no f68, fun b hb => k0 b (by omega) (fun y => by have := A8.lt y; omega) (fun y => by have := R8.lt y; omega), fun b hb => k0 b (by omega) (fun y => by have := ge4 b y; omega) (fun y => by have := ge5 b y; omega), k1, n8.own, n8.rd, ⟨D4, A8, k2⟩, ⟨E5, R8, k3⟩⟩
  have hlen : (chunks bs).length = n := by rw [chunks_length, hbs]; omega
  refine begins_spec X fun h9 col9 t u ag9 z9 X9 => ⟨_, rfl, cnot (ct rfl ?_)⟩
  have iv9 : Iw 0 0 n ⟨fresh (chunks bs), [], [], false⟩ := Iw.new hlen
  have fin : ∀ {hh : Heap} {col : Nat → Nat} {d q t u : Option Addr} {T : TM}, Xt h2 h7.size d q t u (geoN n) T T hh col → K (.bool true) hh := fun Y => hK _ (n2.fr.no Y.fr)
  refine ⟨fun i hh => ∃ (j : Nat) (col : Nat → Nat) (d q t u : Option Addr) (T : TM), i = j ∧ j ≤ 120 ∧ Xt h2 h7.size d q t u (geoN n) T T hh col ∧ Iw j (2 * j) n T, fun i _ => (((120 : Nat) : Int) - i).toNat, ⟨0, col9, _, _, t, u, _, rfl, Nat.zero_le _, X9, iv9⟩, ?_⟩
  clear X9 iv9 ag9 z9 X k0 k1 k2 k3 A8 R8
  rintro _ h10 ⟨j, col', d, q, t', u', T, rfl, hj, X, iv⟩
  have rc : rd h10 h.size = c.cells := (X.fr.rd (by omega) fun y => y).trans n2.rd
  refine ⟨_, _, _, rda rc rfl, cd (fun hl => ?_) fun _ => steps_k3 X (fin X)⟩
  generalize hq : decide ((j : Int) < 120) = b
  refine cs (fun h120 => ?_) fun _ => steps_k3 X (fin X)
  have h120 := of_decide_eq_true (hq.trans h120)
  unfold bolelaw09_SpacePlays.k2
  have hj' : j < c.ops.length := by omega
  obtain ⟨p, ep, cp⟩ := op9_cell (SlCells.fr X.fr (SlCells.fr n2.fr S fun _ _ y => y) fun _ _ y => y) hj'
  rw [Int.toNat_natCast, wrap_i64 (n := (j : Int) + 1) (by omega) (by omega)]
  refine ⟨_, _, _, rda rc rfl, ⟨by omega, hl⟩, Rz.oe ep ⟨_, rfl, cp, plays_spec (G.no n2.fr) X dm iv (by omega) (by omega) (ok _ (List.getElem_mem hj')) fun h11 col11 d' q' t2 u2 T' X11 iv11 => ⟨_, rfl, cnot (ct rfl ⟨⟨j + 1, col11, d', q', t2, u2, T', rfl, by omega, X11, iv11.le (Nat.le_refl _) (by omega)⟩, falls (m := 120) (by omega)⟩)⟩⟩⟩
end
end Go.Proofs.YtjdcbblgaoogmaaGreatDoor.Sx
namespace Go.Proofs.YtjdcbblgaoogmaaGreatDoor
open Go Go.ChangeShapes Go.WideShapes Go.ChangeAt Go.RowKit Go.Proofs.YtjdcbblgaoogmaaGreatDoor.Wx Go.Proofs.YtjdcbblgaoogmaaGreatDoor.Hp Go.Proofs.YtjdcbblgaoogmaaGreatDoor.Gl
theorem Tryz.cellsInt9 : Tryz.prog.cellsOf 3 = 1 := by kernel_rfl
theorem Tryz.cellsOp9 : Tryz.prog.cellsOf 87 = 3 := by kernel_rfl
theorem Tryz.cellsOps9 : Tryz.prog.cellsOf 73 = 1 := by kernel_rfl
theorem Tryz.cellsCase9 : Tryz.prog.cellsOf 75 = 4 := by kernel_rfl
set_option maxRecDepth 100000 in
theorem one_op9 {H : Type} {enc : TypeId × Value → H} {W : World} (n : Nat) (cs : List Value) (y : DataW H × List MemPlace) (h : DataW.trod enc Tryz.prog W 0 (fun _ => true) true n 87 cs = some y) : ∃ x : Sx.Op9, cs = x.cells ∧ x.n ≤ 9223372036854775807 := by
  obtain ⟨xs, k, _, hd, hl, hlen, hf⟩ := DataW.trod_struct Tryz.underlying87 h
  rw [Tryz.cellsOp9] at hl
  match xs, hlen with
  | [y0, y1, y2], _ =>
    have h0 : DataW.trod enc Tryz.prog W 0 (fun _ => true) true k 3 (List.take (Tryz.prog.cellsOf 3) (List.drop 0 _)) = some y0 := hf 0 _ rfl
    have h1 : DataW.trod enc Tryz.prog W 0 (fun _ => true) true k 3 (List.take (Tryz.prog.cellsOf 3) (List.drop 1 _)) = some y1 := hf 1 _ rfl
    have h2 : DataW.trod enc Tryz.prog W 0 (fun _ => true) true k 5 (List.take (Tryz.prog.cellsOf 5) (List.drop 2 _)) = some y2 := hf 2 _ rfl
    simp only [Tryz.cellsInt9, Tryz.cellsByte] at h0 h1 h2
    match cs, hl with
    | [a, b, c], _ =>
      obtain ⟨n0, e0, _, _⟩ := DataW.trod_int Tryz.underlying3 h0
      obtain ⟨n1, e1, _, w1⟩ := DataW.trod_int Tryz.underlying3 h1
      obtain ⟨n2, e2, _, w2⟩ := DataW.trod_int Tryz.underlying5 h2
      have e0 : a = .int .i64 n0 := by simpa using e0
      have e1 : b = .int .i64 n1 := by simpa using e1
      have e2 : c = .int .u8 n2 := by simpa using e2
      exact ⟨⟨n0, n1, UInt8.ofNat n2.toNat⟩, by rw [e0, e1, e2, Sx.Op9.cells, bv_of w2], (int_range w1).2⟩
set_option maxRecDepth 100000 in
theorem open_case9 {H : Type} {enc : TypeId × Value → H} {W : World} {base : Nat} {v : Value} {d : DataW H} {p : List MemPlace} (hval : Value.okWide Tryz.prog W .any base 75 v) (h : DataW.Trod enc Tryz.prog W 0 (fun _ => true) true 75 v d p) :
    ∃ c : Sx.Cs, v = .agg ⟨c.cells⟩ ∧ StrAt W.heap c.ba c.bl c.bs ∧ SlCells W.heap c.sa (c.ops.flatMap Sx.Op9.cells) ∧ ∀ o ∈ c.ops, o.n ≤ 9223372036854775807 := by
  obtain ⟨cs, rfl, _⟩ := okWide_struct Tryz.underlying75 hval
  obtain ⟨fuel, hf⟩ := h
  obtain ⟨xs, n, _, hd, hl, hlen, hf⟩ := DataW.trod_struct Tryz.underlying75 hf
  rw [Tryz.cellsCase9] at hl
  match xs, hlen with
  | [y0, y1, y2, y3], _ =>
    have h0 : DataW.trod enc Tryz.prog W 0 (fun _ => true) true n 3 (List.take (Tryz.prog.cellsOf 3) (List.drop 0 _)) = some y0 := hf 0 _ rfl
    have h1 : DataW.trod enc Tryz.prog W 0 (fun _ => true) true n 37 (List.take (Tryz.prog.cellsOf 37) (List.drop 1 _)) = some y1 := hf 1 _ rfl
    have h2 : DataW.trod enc Tryz.prog W 0 (fun _ => true) true n 5 (List.take (Tryz.prog.cellsOf 5) (List.drop 2 _)) = some y2 := hf 2 _ rfl
    have h3 : DataW.trod enc Tryz.prog W 0 (fun _ => true) true n 73 (List.take (Tryz.prog.cellsOf 73) (List.drop 3 _)) = some y3 := hf 3 _ rfl
    simp only [Tryz.cellsInt9, Tryz.cellsBytes, Tryz.cellsByte, Tryz.cellsOps9] at h0 h1 h2 h3
    obtain ⟨cl⟩ := cs
    match cl, hl with
    | [c0, c1, c2, c3], _ =>
      obtain ⟨n0, e0, _, _⟩ := DataW.trod_int Tryz.underlying3 h0
      obtain ⟨ba, bl, bc, bs, e1, B, _, _⟩ := inner_bytes Tryz.underlying37 Tryz.underlying5 Tryz.cellsByte h1
      obtain ⟨n2, e2, _, w2⟩ := DataW.trod_int Tryz.underlying5 h2
      obtain ⟨sa, sl, sc, ops, e3, S, hs, _, _, hq⟩ := inner_rowW (α := Sx.Op9) Sx.Op9.cells (fun _ x => x.n ≤ 9223372036854775807) (fun _ => rfl) Tryz.underlying73 Tryz.cellsOp9 h3 one_op9
      have e0 : [c0] = [.int .i64 n0] := e0
      have e1 : [c1] = [.slice ba bl bc] := e1
      have e2 : [c2] = [.int .u8 n2] := e2
      have e3 : [c3] = [.slice sa sl sc] := e3
      have e0 := (List.cons.inj e0).1
      have e1 := (List.cons.inj e1).1
      have e2 := (List.cons.inj e2).1
      have e3 := (List.cons.inj e3).1
      refine ⟨⟨n0, ba, bl, bc, bs, UInt8.ofNat n2.toNat, sa, sc, ops⟩, by rw [e0, e1, e2, e3, ← hs, Sx.Cs.cells, bv_of w2], B, S, fun o ho => ?_⟩
      obtain ⟨i, hi, rfl⟩ := List.mem_iff_getElem.mp ho
      obtain ⟨z, _, h⟩ := hq i hi
      exact h
theorem laid_met9 (os : Os) : laidMet Tryz.prog Rows.spacePlaysRow.laid ((laidWorld os).forCall (fun _ _ => 0) ⟨#[], #[.agg #[.int .i64 0, .slice none 0 0, .int .u8 0, .slice none 0 0]], []⟩).memory :=
  laidMet_of_run' 8 (by kernel_rfl) (by kernel_rfl)
theorem reads9 (os : Os) {H : Type} (enc : TypeId × Value → H) : ∃ places, DataW.whole enc Tryz.prog ((laidWorld os).forCall (fun _ _ => 0) ⟨#[], #[.agg #[.int .i64 0, .slice none 0 0, .int .u8 0, .slice none 0 0]], []⟩).memory Tryz.f5.params.toList Rows.spacePlaysSpec.vars false #[Value.agg #[.int .i64 0, .slice none 0 0, .int .u8 0, .slice none 0 0]].toList 8 = some ([.agg [.lit (.int .i64 0), .nil, .lit (.int .u8 0), .nil]], [], places) :=
  ⟨[], by kernel_rfl⟩
set_option maxRecDepth 100000 in
theorem splay_lifted (os : Os) (started : os.Started) (H : Type) (enc : TypeId × Value → H) (F : Stop.Interp) :
    ReturnsInHanded {} Tryz.checked os 5 .any ((OpenSpec.ofChange Rows.spacePlaysSpec).preRow enc Tryz.prog Tryz.f5 Rows.spacePlaysRow.domain false Rows.spacePlaysRow.laid) (((OpenSpec.ofChange Rows.spacePlaysSpec).at F).post enc Tryz.prog Tryz.f5 false true false false) := by
  obtain ⟨places, hx⟩ := reads9 os enc
  refine lifted_row (C := Tryz.checked) (P := Tryz.prog) (s := Rows.spacePlaysSpec) (tb := 4) rfl Tryz.own started (by kernel_rfl) Tryz.func5
    (witness_row_at (enc := enc) (C := Tryz.checked) false (laidWorld os) #[.agg #[.int .i64 0, .slice none 0 0, .int .u8 0, .slice none 0 0]] rfl (by kernel_rfl) (by kernel_rfl) (by kernel_rfl)
      (OpenSpec.preRow_of_cond 8 hx (by kernel_rfl) (fun k hk => by cases hk) (by kernel_rfl) (laid_met9 os)))
    Tryz.laidOut (by kernel_rfl) (by kernel_rfl) Tryz.underlying4 rfl ?_ ?_
  · intro ds hl
    rw [Tryz.params5] at hl
    match ds, hl with
    | [_], _ => exact ⟨rfl, rfl, rfl⟩
  · intro W base args ds ps hval hA hsz hL
    rw [Tryz.params5] at hA hval
    obtain ⟨v0, d0, rfl, rfl, h0⟩ := trodAll_one hA
    obtain ⟨c, rfl, B, S, ok⟩ := open_case9 (hval 0 75 v0 rfl rfl) h0
    exact Sx.SpacePlays_spec (tables hL) B S ok true_mk
theorem splay_said : Rows.SpacePlaysSaid :=
  OpenClaim.holds_of_cond 5 Tryz.f5 rfl rfl rfl rfl rfl rfl rfl ⟨rfl, rfl, rfl, rfl, rfl⟩ rfl rfl rfl rfl rfl (by kernel_rfl) Tryz.func5 (by kernel_rfl)
    (of_decide_eq_true (by kernel_rfl)) (by unfold Func.isWrapper; first | (rw [if_pos (by decide +kernel)]; kernel_rfl) | (rw [if_neg (by decide +kernel)]; exact ⟨rfl, rfl⟩))
    (fun os started H enc _ F => by rw [OpenClaim.pre_eq_preRow]; exact splay_lifted os started H enc F)
theorem splay_plain (f : FuncId) (fn : Func) (hf : Tryz.pinned.checked.prog.funcNamed "bole/bolelaw09.SpacePlays" = some f) (hfn : Tryz.pinned.checked.prog.funcs[f]? = some fn) :
    true = Tryz.pinned.checked.prog.looks [] ∧ ∀ (j : Nat) t, fn.params[j]? = some t → Tryz.pinned.checked.prog.wantsStandIn t = false := by
  obtain rfl : f = 5 := Option.some.inj ((show Tryz.prog.funcNamed "bole/bolelaw09.SpacePlays" = some 5 by kernel_rfl).symm.trans hf) |>.symm
  obtain rfl : fn = Tryz.f5 := (Option.some.inj (Tryz.func5.symm.trans hfn)).symm
  refine ⟨by kernel_rfl, fun j t ht => ?_⟩
  rw [Tryz.params5] at ht
  have := Array.mem_of_getElem? ht
  have : t = 75 := by simpa using this
  subst this
  exact (show Tryz.prog.wantsStandIn 75 = false by kernel_rfl)
theorem spacePlays_card : Rows.SpacePlaysCardSaid :=
  Claim7.holds_tied_plain_at .later [] _ _ _ _ splay_said (fun _ h => by cases h) (by kernel_rfl) (fun _ h => by cases h) spacePlays_row_tie rfl ⟨rfl, rfl⟩ (by kernel_rfl) rfl splay_plain (by kernel_rfl)
end Go.Proofs.YtjdcbblgaoogmaaGreatDoor
