/-
  TRANSACTIONS: Commit, Abort, Over.
-/
import Derived.Test.YtpleolmalbdpnaaDoorWcB
import Derived.Test.YtpleolmalbdpnaaDoorTcP
namespace Go.Proofs.YtpleolmalbdpnaaDoor.Tm
open Go Go.Proofs Go.Proofs.YtpleolmalbdpnaaDoor.Wx Go.Proofs.YtpleolmalbdpnaaDoor.Hp Go.Proofs.YtpleolmalbdpnaaDoor.W Go.Proofs.YtpleolmalbdpnaaDoor.Ad

theorem end_body {h : Heap} {b : Nat} {q x y z : Value} {K : Value → Heap → Prop} (o : Own h b) (e : rd h b = [q, x, y, z]) (hK : ∀ h', Did b h h' [q, .map none, .slice none 0 0, .bool true] → K (.tuple #[]) h') : txn_Txn_end (some ⟨b, 0, none⟩) K h := by
  refine os (Put.add o (by rw [e]; show 1 < 4; omega) fun h2 d2 => ?_)
  rw [e] at d2
  refine os (Put.add d2.own (by rw [d2.rd]; show 2 < 4; omega) fun h3 d3 => ?_)
  rw [d2.rd] at d3
  refine os (Put.add d3.own (by rw [d3.rd]; show 3 < 4; omega) fun h4 d4 => ?_)
  rw [d3.rd] at d4
  exact hK h4 ⟨by rw [d4.size, d3.size, d2.size], (d2.fr.trans d3.fr fun _ _ x => x).trans d4.fr fun _ _ x => x, d4.own, d4.rd⟩
/-- a transaction lets go of what it holds -/
theorem TxC.shut {h h7 h8 : Heap} {F : Nat → Prop} {col : Nat → Nat} {d : Option Addr} {r : TR} {T : TM} {S : RD} {D : Nat → Prop} (X : TxC h col d r T) (hF : ∀ b, F b ↔ 1 ≤ col b ∧ col b ≤ 5) (f : Fr (fun b => col b = 5) h h7) (g : Gw h (fun b => col b = 5) h7 D) (A : DiskF h7 D d S)
    (d8 : Did r.tb h7 h8 [.pointer d, .map none, .slice none 0 0, .bool true]) : ∃ F', Fr F h h8 ∧ Gw h F h8 F' ∧ Tx h8 F' (some ⟨r.tb, 0, none⟩) d (TM.ended S) := by
  have tl := X.own.lt
  have s1 := X.sc
  have z7 := f.size
  have z8 := d8.size
  obtain ⟨col', k1, k2⟩ : ∃ col' : Nat → Nat, (∀ b, D b → col' b = 5) ∧ ∀ b, ¬ D b → col' b = if b < h.size ∧ col b ≠ 5 then col b else 0 :=
    ⟨fun b => @ite _ (D b) (Classical.propDecidable _) 5 (if b < h.size ∧ col b ≠ 5 then col b else 0), fun b x => if_pos x, fun b x => if_neg x⟩
  have old : ∀ b, b < h.size → col' b = col b := fun b hb => by
    by_cases x : D b
    · rw [k1 b x]; exact ((g.old b hb).mp x).symm
    · have : col b ≠ 5 := fun e => x ((g.old b hb).mpr e)
      rw [k2 b x, if_pos ⟨hb, this⟩]
  have five : ∀ b, col' b = 5 ↔ D b := fun b => ⟨fun e => by
    by_cases x : D b
    · exact x
    · rw [k2 b x] at e
      split at e
      · rename_i y; exact absurd e y.2
      · exact absurd e (by decide), k1 b⟩
  have big : ∀ b, h8.size ≤ b → col' b = 0 := fun b hb => by
    have x : ¬ D b := fun x => by have := A.lt x; omega
    rw [k2 b x, if_neg (by omega)]
  refine ⟨fun b => 1 ≤ col' b ∧ col' b ≤ 5, ?_, ⟨fun b hb => by rw [old b hb]; exact (hF b).symm, fun b hb => ?_⟩, .inr ⟨col', r.tb, rfl, ⟨big, (old _ tl).trans s1, d8.own, d8.rd, ⟨rfl, rfl⟩, rfl, ?_⟩, fun b => Iff.rfl⟩⟩
  · refine (f.mono fun b _ e => (hF b).mpr ?_).trans d8.fr fun b _ e => (hF b).mpr ?_
    · have e : col b = 5 := e; omega
    · have e : b = r.tb := e; subst e; omega
  · rcases Nat.lt_or_ge b h8.size with x | x
    · exact x
    · rw [big b x] at hb; omega
  · refine (A.fr d8.fr fun b hb e => ?_).iff five
    have e : b = r.tb := e
    subst e
    have := (g.old _ tl).mp hb
    have this : col r.tb = 5 := this
    omega
def rsOf (ps : List (Int × (Sc × Txt))) (l : List Int) : Wc.Rs := l.map fun i => (i, (aget ps i).getD (⟨none, 0, 0⟩, []))
theorem rs_blocks {h : Heap} {col : Nat → Nat} {d : Option Addr} {r : TR} {T : TM} (X : TxC h col d r T) : Wc.nb (rsOf r.ps T.written) = T.blocks := by
  unfold Wc.nb rsOf TM.blocks
  rw [List.map_map]
  refine List.map_congr_left fun i _ => ?_
  show (i, ((aget r.ps i).getD _).2) = (i, (aget T.put i).getD [])
  rw [X.put, aget_map (fun x : Sc × Txt => x.2) i r.ps]
  cases aget r.ps i <;> rfl
theorem Over_spec {h : Heap} {F : Nat → Prop} {t d : Option Addr} {T : TM} {K : Value → Heap → Prop} (x : Tx h F t d T) (hK : K (.bool T.over) h) : C.txn_Txn_Over t h K := by
  rcases x with ⟨col, r, rfl, X, hF⟩ | ⟨col, tb, rfl, X, hF⟩
  · rw [X.live] at hK; exact txn_Txn_Over.ok (os ⟨_, rda X.cell rfl, hK⟩)
  · rw [X.over] at hK; exact txn_Txn_Over.ok (os ⟨_, rda X.cell rfl, hK⟩)
theorem Abort_spec {h : Heap} {F : Nat → Prop} {t d : Option Addr} {T : TM} {K : Value → Heap → Prop} (x : Tx h F t d T) (hK : ∀ h' F', Fr F h h' → Gw h F h' F' → Tx h' F' t d (TM.ended T.disk) → K (.tuple #[]) h') : C.txn_Txn_Abort t h K := by
  have hlt := fun b hb => x.lt (b := b) hb
  rcases x with ⟨col, r, rfl, X, hF⟩ | ⟨col, tb, rfl, X, hF⟩
  · refine txn_Txn_Abort.ok (txn_Txn_end.ok (end_body X.own X.cell fun h2 d2 => ⟨rfl, ?_⟩))
    obtain ⟨F', f, g, y⟩ := X.shut hF (Fr.refl _ _) (Gw.refl (Nat.le_refl _) fun b hb => X.dk.lt hb) X.dk d2
    exact hK h2 F' f g y
  · refine txn_Txn_Abort.ok (txn_Txn_end.ok (end_body X.own X.cell fun h2 d2 => ⟨rfl, ?_⟩))
    have s1 := X.sc
    have f2 : Fr F h h2 := d2.fr.mono fun b _ e => by have e : b = tb := e; subst e; exact (hF _).mpr (by omega)
    have z2 := d2.size
    exact hK h2 F f2 (Gw.refl f2.size hlt) (.inr ⟨col, tb, rfl, ⟨fun b hb => X.nrm b (by omega), s1, d2.own, d2.rd, ⟨rfl, rfl⟩, rfl, X.dk.fr d2.fr fun b hb e => by
      have e : b = tb := e
      subst e
      have hb : col b = 5 := hb
      omega⟩, hF⟩)
theorem Commit_spec {h : Heap} {F : Nat → Prop} {t d : Option Addr} {T : TM} {K : Value → Heap → Prop} (G : Re.Glo h) (x : Tx h F t d T) (hp : T.put.length < 10000) (hq : T.disk.pend.length < 100000000) (ht : T.disk.tape.length < 100000000)
    (hK : ∀ h' F', Fr F h h' → Gw h F h' F' → Tx h' F' t d T.commit.1 → K (.int .i64 T.commit.2) h') : C.txn_Txn_Commit t h K := by
  have hlt := fun b hb => x.lt (b := b) hb
  have x0 := x
  rcases x with ⟨col, r, rfl, X, hF⟩ | ⟨col, tb, rfl, X, hF⟩
  rotate_left
  · refine txn_Txn_Commit.ok (os ⟨_, rda X.cell rfl, ct rfl ?_⟩)
    have e0 : T.commit = (T, 61) := by unfold TM.commit; rw [X.over, if_pos rfl]
    rw [e0] at hK
    exact hK h F (Fr.refl _ _) (Gw.refl (Nat.le_refl _) hlt) (.inr ⟨col, tb, rfl, X, hF⟩)
  have live := X.live
  have elen : T.put.length = r.ps.length := by rw [X.put, List.length_map]
  have em : (mm (fun x : Sc × Txt => x.1.v) r.ps).length = r.ps.length := mm_length _ _
  refine txn_Txn_Commit.ok (os ⟨_, rda X.cell rfl, cf rfl (os ⟨_, rda X.cell rfl, _, X.map, ce (fun h0 => ?_) fun h0 => ?_⟩)⟩)
  · have e : T.put = [] := List.eq_nil_of_length_eq_zero (by omega)
    have e0 : T.commit = (TM.ended T.disk, 0) := by unfold TM.commit; rw [live, if_neg (by simp), if_pos e]
    rw [e0] at hK
    refine txn_Txn_end.okD (end_body X.own X.cell fun h2 d2 => ?_)
    obtain ⟨F', f, g, y⟩ := X.shut hF (Fr.refl _ _) (Gw.refl (Nat.le_refl _) fun b hb => X.dk.lt hb) X.dk d2
    exact hK h2 F' f g y
  have hne : T.put ≠ [] := fun e => by rw [e] at elen; have : (0 : Nat) = r.ps.length := elen; omega
  have e0 : T.commit = (TM.ended (Wc.wal T.disk T.blocks).1, (Wc.wal T.disk T.blocks).2) := by unfold TM.commit; rw [live, if_neg (by simp), if_neg hne]
  rw [e0] at hK
  refine Written_spec x0 (by omega) fun a l c h3 f3 el s3 => ⟨_, _, _, rfl, ?_⟩
  have wl : T.written.length = l := by have := s3.1; rw [List.length_map] at this; omega
  have z3 := f3.size
  have mem : ∀ i ∈ T.written, ∃ x, aget r.ps i = some x ∧ (i, x) ∈ r.ps := fun i hi => by
    have hi : i ∈ T.put.map (·.1) := (sortZ_perm _).mem_iff.mp hi
    rw [X.put, List.map_map] at hi
    obtain ⟨v, e⟩ := aget_some (m := r.ps) hi
    exact ⟨v, e, aget_mem e⟩
  have rl : (rsOf r.ps T.written).length = l := by unfold rsOf; rw [List.length_map, wl]
  refine ⟨fun la ll lc n hh => 0 ≤ n ∧ n ≤ l ∧ ll = n.toNat ∧ Fr No h3 hh ∧ ∃ F1 : Nat → Prop, Wc.Row h3.size hh F1 2 la ll lc (((rsOf r.ps T.written).take n.toNat).flatMap Wc.cellsR),
    fun _ _ _ n _ => ((l : Int) - n).toNat, ⟨by omega, by omega, rfl, Fr.refl _ _, No, Wc.Row.nil _ _ _⟩, ?_⟩
  rintro la ll lc n h4 ⟨n0, n1, rfl, f4, F1, r1⟩
  have z4 := f4.size
  have f34 := f3.no f4
  refine cd (fun hn => ?_) fun hn => ?_
  · have hn' : n.toNat < T.written.length := by omega
    have cc := SlCells.fr f4 s3.cells fun _ _ x => x
    obtain ⟨p, rfl, cv⟩ := Hd.ints_get (ns := T.written) cc hn'
    obtain ⟨v, ev, mv⟩ := mem _ (List.getElem_mem hn')
    refine ⟨⟨n0, hn⟩, os ⟨_, cv, os ⟨_, rda ((f34.rd X.own.lt fun x => x).trans X.cell) rfl, _, map_fr X.map f34 (fun x => x), v.1.a, v.1.l, v.1.c, ?_, rfl, ?_⟩⟩⟩
    · rw [mget_mm, ev]; rfl
    have erg : (rsOf r.ps T.written)[n.toNat]'(by rw [rl, ← wl]; exact hn') = (T.written[n.toNat], v) := by
      unfold rsOf
      rw [List.getElem_map, ev]; rfl
    refine Wc.row_app (vs := [.int .i64 T.written[n.toNat], v.1.v]) r1 rfl (Wc.cellsR_one (T.written[n.toNat], v)) rfl rfl (Nat.le_of_ble_eq_true rfl) (by omega) (by omega) fun la' lc' h6 F1' f6 g6 r1' => ?_
    rw [wrap_i64 (by omega) (by omega)]
    have en : (n + 1).toNat = n.toNat + 1 := by omega
    refine ⟨⟨by omega, by omega, en.symm, f4.trans f6 fun b hb y => by have := r1.ge b y; omega, F1', ?_⟩, falls hn⟩
    rw [en, take_snoc _ _ (by rw [rl]; omega), List.flatMap_append, erg, List.flatMap_cons, List.flatMap_nil, List.append_nil]
    exact r1'
  have ln : n.toNat = l := by omega
  rw [List.take_of_length_le (by omega), ln] at r1
  rw [ln, ← rl]
  have A4 : DiskF h4 (fun b => col b = 5) d T.disk := X.dk.no f34
  have bl : Wc.Bl h4 (fun b => col b = 5) la (rsOf r.ps T.written) := by
    refine ⟨r1.s.cells, fun p e => ?_, fun q hq => ?_⟩
    · subst e
      obtain ⟨_, _, k, o, _⟩ := r1.s
      refine ⟨o.lt, fun y => ?_⟩
      have y : col p.block = 5 := y
      have := X.nrm p.block (by have := (r1.ge _ k).1; omega)
      omega
    · obtain ⟨i, hi, rfl⟩ := List.mem_map.mp hq
      obtain ⟨v, ev, mv⟩ := mem i hi
      show StrAt h4 ((aget r.ps i).getD _).1.a _ _ ∧ _
      rw [ev]
      have bk := X.pok _ mv
      refine ⟨StrAt.fr f34 bk.s fun _ _ x => x, fun p e => ⟨by have := (bk.at_ p e).1; omega, fun y => ?_⟩⟩
      have y : col p.block = 5 := y
      have := (bk.at_ p e).2
      omega
  refine os ⟨_, rda ((f34.rd X.own.lt fun x => x).trans X.cell) rfl, Wc.Commit_spec (G.no f34) A4 bl (by omega) hq ht fun h7 D7 f7 g7 A7 => ⟨_, rfl, ?_⟩⟩
  rw [rs_blocks X] at A7 ⊢
  have f07 : Fr (fun b => col b = 5) h h7 := (f34.mono fun _ _ x => x.elim).trans f7 fun _ _ x => x
  have s1 := X.sc
  have tl := X.own.lt
  have nt : ¬ col r.tb = 5 := by omega
  refine txn_Txn_end.okD (end_body (f07.own tl nt X.own) ((f07.rd tl nt).trans X.cell) fun h8 d8 => ?_)
  obtain ⟨F', f, g, y⟩ := X.shut hF f07 ⟨fun b hb => g7.old b (by omega), g7.lt⟩ A7 d8
  exact hK h8 F' f g y
end Go.Proofs.YtpleolmalbdpnaaDoor.Tm
