/-
  TRANSACTIONS: Begin, Read, Mark, Write.
-/
import Derived.Test.YtpleolmalbdpnaaDoorTmA
namespace Go.Proofs.YtpleolmalbdpnaaDoor.Tm
open Go Go.Proofs Go.Proofs.YtpleolmalbdpnaaDoor.Wx Go.Proofs.YtpleolmalbdpnaaDoor.Hp Go.Proofs.YtpleolmalbdpnaaDoor.W Go.Proofs.YtpleolmalbdpnaaDoor.Ad

theorem oe {α : Type} {a : Option α} {p : α} {k : α → Prop} (e : a = some p) (h : k p) : onSome a k := by rw [e]; exact h
theorem pick_col (D : Nat → Prop) (x y : Nat) : ∃ c : Nat → Nat, (∀ b, D b → c b = x) ∧ ∀ b, ¬ D b → c b = y :=
  ⟨fun b => @ite _ (D b) (Classical.propDecidable _) x y, fun b h => if_pos h, fun b h => if_neg h⟩
theorem Begin_spec {h : Heap} {D : Nat → Prop} {d : Option Addr} {S : RD} {K : Value → Heap → Prop} (a : DiskF h D d S)
    (hK : ∀ tb h' F, Fr No h h' → Gw h D h' F → Tx h' F (some ⟨tb, 0, none⟩) d ⟨S, [], [], false⟩ → K (.pointer (some ⟨tb, 0, none⟩)) h') : C.txn_Begin d h K := by
  refine txn_Begin.ok ?_
  show New _ _ (newM h) _
  refine New.intro fun h3 n3 => ?_
  have sm := newM_size h
  have s3 := n3.size
  have F := (newM_fr h).new n3
  have e := n3.rd
  have o := n3.own
  rw [sm] at e o ⊢
  obtain ⟨c, c1, c2⟩ := pick_col D 5 0
  have hlt : ∀ b, D b → b < h.size := fun b hb => a.lt hb
  have cz : ∀ b, h.size ≤ b → c b = 0 := fun b hb => c2 b fun x => by have := hlt b x; omega
  have cr : ∀ b, 1 ≤ c b → D b := fun b x => by
    by_cases hd : D b
    · exact hd
    · rw [c2 b hd] at x; omega
  have cd : ∀ b, c b = 5 ↔ D b := fun b => ⟨fun x => cr b (by omega), c1 b⟩
  obtain ⟨col, k1, k2, k3⟩ : ∃ col : Nat → Nat, (∀ b, b ≠ h.size → b ≠ h.size + 1 → col b = c b) ∧ col h.size = 2 ∧ col (h.size + 1) = 1 :=
    ⟨fun b => if b = h.size then 2 else if b = h.size + 1 then 1 else c b, fun b x y => by show (if _ then _ else if _ then _ else _) = _; rw [if_neg x, if_neg y], if_pos rfl, by show (if _ then _ else if _ then _ else _) = _; rw [if_neg (by omega), if_pos rfl]⟩
  refine hK (h.size + 1) h3 (fun b => 1 ≤ col b ∧ col b ≤ 5) F ⟨fun b hb => ?_, fun b hb => ?_⟩ (.inl ⟨col, ⟨h.size + 1, h.size, none, 0, [], []⟩, rfl, ⟨fun b hb => ?_, k3, o, e, k2, map_fr (newM_at h) n3.fr fun x => x, Sl.nil _ _ _, fun p hp => (by cases hp), fun u hu => (by cases hu), rfl, rfl, rfl, ?_, fun p hp => (by cases hp), fun u hu => (by cases hu)⟩, fun b => Iff.rfl⟩)
  · show 1 ≤ col b ∧ col b ≤ 5 ↔ D b
    rw [k1 b (by omega) (by omega)]
    exact ⟨fun x => cr b x.1, fun x => by rw [c1 b x]; omega⟩
  · have hb : 1 ≤ col b ∧ col b ≤ 5 := hb
    by_cases x : b = h.size
    · omega
    · by_cases y : b = h.size + 1
      · omega
      · rw [k1 b x y] at hb
        have := hlt b (cr b hb.1); omega
  · rw [k1 b (by omega) (by omega)]; exact cz b (by omega)
  · refine (a.no F).iff fun b => ?_
    show col b = 5 ↔ D b
    by_cases x : b = h.size
    · subst x
      rw [k2]; exact ⟨fun x => (by omega), fun x => by have := hlt _ x; omega⟩
    · by_cases y : b = h.size + 1
      · subst y
        rw [k3]; exact ⟨fun x => (by omega), fun x => by have := hlt _ x; omega⟩
      · rw [k1 b x y]; exact cd b
theorem Clone_any {a : Option Addr} {l c : Nat} {bs : List UInt8} {h : Heap} {K : Value → Heap → Prop} (B : StrAt h a l bs) (hl : l ≤ 140737488355328)
    (hK : ∀ a' c' h', Fr No h h' → Sl h' 1 a' l c' (bs.map bv) (From h.size) → K (.slice a' l c') h') : C.slices_Clone_byte_byte a l c h K := Clone_spec B hl hK
theorem Read_spec {h : Heap} {F : Nat → Prop} {t d : Option Addr} {T : TM} {i : Int} {K : Value → Heap → Prop} (x : Tx h F t d T)
    (hK : ∀ a l c h', Fr No h h' → l = (T.read i).1.length → Sl h' 1 a l c ((T.read i).1.map bv) (From h.size) → K (.tuple #[.slice a l c, .int .i64 (T.read i).2]) h') : C.txn_Txn_Read t i h K := by
  rcases x with ⟨col, r, rfl, c, hF⟩ | ⟨col, tb, rfl, c, hF⟩
  · refine txn_Txn_Read.ok (os ⟨_, rda c.cell rfl, cf rfl ?_⟩)
    have e0 : T.read i = if i < 0 ∨ i ≥ T.N then ([], 31) else T.get i := by
      unfold TM.read; rw [c.live, if_neg (by simp)]
    have bad : (i < 0 ∨ i ≥ T.N) → K (.tuple #[.slice none 0 0, .int .i64 31]) h := fun hb => by
      rw [e0, if_pos hb] at hK
      exact hK none 0 0 h (Fr.refl _ _) rfl (Sl.nil _ _ _)
    refine cd (fun hn => bad (.inl hn)) fun h0 => os ⟨_, rda c.cell rfl, c.dk.blocks ⟨_, rfl, cd (fun hn => bad (.inr hn)) fun h1 => ?_⟩⟩
    have e1 : ¬ (i < 0 ∨ i ≥ T.N) := by
      rintro (x | x)
      · exact h0 x
      · exact h1 x
    rw [e0, if_neg e1] at hK
    unfold txn_Txn_Read.k1
    refine os ⟨_, rda c.cell rfl, _, c.map, ?_⟩
    dsimp only
    rw [mget_mm]
    have eput : aget T.put i = (aget r.ps i).map (·.2) := by rw [c.put]; exact aget_map (fun x : Sc × Txt => x.2) i r.ps
    cases e : aget r.ps i with
    | none =>
      rw [TM.get_none (by rw [eput, e]; rfl)] at hK
      refine ⟨none, 0, 0, rfl, cf rfl (os ⟨_, rda c.cell rfl, c.dk.read (fun hd => ?_) (fun _ hno => absurd ⟨by omega, by have : ¬ i ≥ (T.N : Int) := h1; have e : T.N = T.disk.lasts.length := rfl; omega⟩ hno) fun hd _ _ b h' f s hl => ?_⟩)⟩
      · rw [if_pos hd] at hK
        exact ⟨_, _, _, _, rfl, hK none 0 0 h (Fr.refl _ _) rfl (Sl.nil _ _ _)⟩
      · rw [if_neg (by rw [hd]; simp)] at hK
        exact ⟨_, _, _, _, rfl, hK _ 512 512 h' f hl.symm s⟩
    | some x =>
      rw [TM.get_some (b := x.2) (by rw [eput, e]; rfl)] at hK
      have B := c.pok _ (aget_mem e)
      have B : Blk h col 4 x := B
      have hl : x.1.l = 512 := by rw [← B.s.1]; exact B.l
      refine ⟨x.1.a, x.1.l, x.1.c, rfl, ct rfl (Clone_any B.s (by omega) fun a' c' h' f s => ⟨_, _, _, rfl, ?_⟩)⟩
      exact hK a' x.1.l c' h' f B.s.1.symm s
  · refine txn_Txn_Read.ok (os ⟨_, rda c.cell rfl, ct rfl ?_⟩)
    have e0 : T.read i = ([], 61) := by unfold TM.read; rw [c.over, if_pos rfl]
    rw [e0] at hK
    exact hK none 0 0 h (Fr.refl _ _) rfl (Sl.nil _ _ _)
theorem Mark_spec {h : Heap} {F : Nat → Prop} {t d : Option Addr} {T : TM} {K : Value → Heap → Prop} (x : Tx h F t d T) (hK : K (.tuple #[.int .i64 T.mark.1, .int .i64 T.mark.2]) h) : C.txn_Txn_Mark t h K := by
  rcases x with ⟨col, r, rfl, c, hF⟩ | ⟨col, tb, rfl, c, hF⟩
  · refine txn_Txn_Mark.ok (os ⟨_, rda c.cell rfl, cf rfl (os ⟨_, _, _, rda c.cell rfl, ?_⟩)⟩)
    have : T.mark = ((r.us.length : Int), 0) := by unfold TM.mark; rw [c.live, if_neg (by simp), c.undo, List.length_map]
    rw [this] at hK; exact hK
  · refine txn_Txn_Mark.ok (os ⟨_, rda c.cell rfl, ct rfl ?_⟩)
    have : T.mark = (0, 61) := by unfold TM.mark; rw [c.over, if_pos rfl]
    rw [this] at hK; exact hK
/-- Write, up to its questions: the cells that its closure will look at -/
theorem Write_pre {h : Heap} {tb : Nat} {i : Int} {a : Option Addr} {l c : Nat} {m1 : Option Nat} {W : MapC} {sA : Option Addr} {sL sC : Nat} {K : Value → Heap → Prop}
    (hc : ∀ hq, Fr No h hq → cellOf hq (Addr.add ⟨tb, 0, none⟩ 1) = some (.map m1)) (hM : ∀ hq (K' : MapC → Prop), Fr No h hq → K' W → MapIn DI m1 hq K') (hs : Option.getD (mget W (.i i)) (zeroV ti28) = .slice sA sL sC)
    (fin : ∀ (h2 : Heap) h7 wb ob, h2.size = h.size + 1 → Fr No h h7 → h.size + 2 ≤ wb → h.size + 2 ≤ ob → wb < h7.size → ob < h7.size → wb ≠ ob → rd h7 h.size = [.pointer (some ⟨tb, 0, none⟩)] → rd h7 (h.size + 1) = [.int .i64 i] →
      rd h7 wb = [.slice sA sL sC] → rd h7 ob = [.bool (mget W (.i i)).isSome] → txn_Txn_Write.k1 a l c h h2 (some ⟨wb, 0, none⟩) (some ⟨ob, 0, none⟩) h7 K) : C.txn_Txn_Write (some ⟨tb, 0, none⟩) i a l c h K := by
  refine txn_Txn_Write.ok (New.intro fun h2 n2 => New.intro fun h3 n3 => ?_)
  have s2 := n2.size
  have s3 := n3.size
  have F3 := n2.fr.new n3
  have r1 : rd h3 h.size = [.pointer (some ⟨tb, 0, none⟩)] := (n3.at_ (by omega)).trans n2.rd
  have r2 : rd h3 h2.size = [.int .i64 i] := n3.rd
  refine ⟨_, rdc r1 rfl, os ⟨_, hc h3 F3, _, rdc r2 rfl, ?_⟩⟩
  have C1 : ∀ {hq : Heap}, Fr No h3 hq → cellOf hq ⟨h.size, 0, none⟩ = some (.pointer (some ⟨tb, 0, none⟩)) := fun fq => rdc ((fq.rd (by omega) fun x => x).trans r1) rfl
  have C2 : ∀ {hq : Heap}, Fr No h3 hq → cellOf hq (Addr.add ⟨tb, 0, none⟩ 1) = some (.map m1) := fun fq => hc _ (F3.no fq)
  have C3 : ∀ {hq : Heap}, Fr No h3 hq → cellOf hq ⟨h2.size, 0, none⟩ = some (.int .i64 i) := fun fq => rdc ((fq.rd (by omega) fun x => x).trans r2) rfl
  have M : ∀ {hq : Heap} {K' : MapC → Prop}, Fr No h3 hq → K' W → MapIn DI m1 hq K' := fun fq k => hM _ _ (F3.no fq) k
  -- two new blocks, written: then the rest
  have fin1 : ∀ {hq : Heap} {wb ob : Nat} {zw zo : Value}, Fr No h3 hq → wb ≠ ob → h3.size ≤ wb → h3.size ≤ ob → Own hq wb → Own hq ob → rd hq wb = [zw] → rd hq ob = [zo] →
      Put ⟨wb, 0, none⟩ (.slice sA sL sC) hq fun h6 => Put ⟨ob, 0, none⟩ (.bool (Option.isSome (mget W (.i i)))) h6 fun h7 => txn_Txn_Write.k1 a l c h h2 (some ⟨wb, 0, none⟩) (some ⟨ob, 0, none⟩) h7 K := by
    intro hq wb ob zw zo fq hne hw ho ow oo rw' ro'
    refine Put.intro ow (by rw [rw']; exact Nat.one_pos) fun h6 d6 => ?_
    have ro6 : rd h6 ob = [zo] := (d6.at_ oo.lt (fun e => hne e.symm)).trans ro'
    refine Put.intro (d6.ow oo) (by rw [ro6]; exact Nat.one_pos) fun h7 d7 => ?_
    have F7 : Fr No h h7 := ((F3.no fq).did d6 fun hlt => by omega).did d7 fun hlt => by omega
    have F7' : Fr No h3 h7 := (fq.did d6 fun hlt => by omega).did d7 fun hlt => by omega
    have z7 := F7'.size
    have z6 := d6.size
    have z7' := d7.size
    have lo := oo.lt
    have lw := ow.lt
    exact fin h2 h7 wb ob s2 F7 (by omega) (by omega) (by omega) (by omega) hne ((F7'.rd (by omega) fun x => x).trans r1) (by rw [← s2]; exact (F7'.rd (by omega) fun x => x).trans r2)
      ((d7.at_ (by omega) hne).trans (by rw [d6.rd, rw']; rfl)) (by rw [d7.rd, ro6]; rfl)
  have fin2 : ∀ {hq hr hs : Heap} {v1 v2 : Value}, Fr No h3 hq → Newly hq hr [v1] → Newly hr hs [v2] → 
      (Put ⟨hq.size, 0, none⟩ (.slice sA sL sC) hs fun h6 => Put ⟨hr.size, 0, none⟩ (.bool (Option.isSome (mget W (.i i)))) h6 fun h7 => txn_Txn_Write.k1 a l c h h2 (some ⟨hq.size, 0, none⟩) (some ⟨hr.size, 0, none⟩) h7 K) ∧
      (Put ⟨hr.size, 0, none⟩ (.slice sA sL sC) hs fun h6 => Put ⟨hq.size, 0, none⟩ (.bool (Option.isSome (mget W (.i i)))) h6 fun h7 => txn_Txn_Write.k1 a l c h h2 (some ⟨hr.size, 0, none⟩) (some ⟨hq.size, 0, none⟩) h7 K) := by
    intro hq hr hs v1 v2 fq n1 n2'
    have z1 := n1.size
    have z2 := n2'.size
    have zq := fq.size
    have g : rd hs hq.size = [v1] := (n2'.at_ (by omega)).trans n1.rd
    exact ⟨fin1 ((fq.new n1).new n2') (by omega) (by omega) (by omega) (n2'.ow n1.own) n2'.own g n2'.rd, fin1 ((fq.new n1).new n2') (by omega) (by omega) (by omega) n2'.own (n2'.ow n1.own) n2'.rd g⟩
  refine ⟨M (Fr.refl _ _) ⟨_, _, _, hs, New.intro fun h4 n4 => ⟨C1 n4.fr, C2 n4.fr, C3 n4.fr, New.intro fun h5 n5 => ⟨C1 (n4.fr.new n5), C2 (n4.fr.new n5), C3 (n4.fr.new n5), (fin2 (Fr.refl _ _) n4 n5).1⟩⟩,
    New.intro fun h4 n4 => ⟨C1 n4.fr, C2 n4.fr, C3 n4.fr, New.intro fun h5 n5 => ⟨C1 (n4.fr.new n5), C2 (n4.fr.new n5), C3 (n4.fr.new n5), (fin2 (Fr.refl _ _) n4 n5).2⟩⟩⟩,
    New.intro fun h4 n4 => ⟨C1 n4.fr, C2 n4.fr, C3 n4.fr, M n4.fr ⟨_, _, _, hs, New.intro fun h5 n5 => ⟨C1 (n4.fr.new n5), C2 (n4.fr.new n5), C3 (n4.fr.new n5), (fin2 (Fr.refl _ _) n4 n5).1⟩⟩,
      New.intro fun h5 n5 => ⟨C1 (n4.fr.new n5), C2 (n4.fr.new n5), C3 (n4.fr.new n5), M (n4.fr.new n5) ⟨_, _, _, hs, (fin2 (Fr.refl _ _) n4 n5).1⟩⟩⟩,
    New.intro fun h4 n4 => ⟨C1 n4.fr, C2 n4.fr, C3 n4.fr, M n4.fr ⟨_, _, _, hs, New.intro fun h5 n5 => ⟨C1 (n4.fr.new n5), C2 (n4.fr.new n5), C3 (n4.fr.new n5), (fin2 (Fr.refl _ _) n4 n5).2⟩⟩,
      New.intro fun h5 n5 => ⟨C1 (n4.fr.new n5), C2 (n4.fr.new n5), C3 (n4.fr.new n5), M (n4.fr.new n5) ⟨_, _, _, hs, (fin2 (Fr.refl _ _) n4 n5).2⟩⟩⟩⟩
theorem tl {c : Bool} {A B : Prop} (b : B) (a : c = true → B → A) : bif c then A else B := by
  cases c with
  | false => exact b
  | true => exact a rfl b
theorem Write_spec {h : Heap} {F : Nat → Prop} {t d : Option Addr} {T : TM} {i : Int} {a : Option Addr} {l c : Nat} {bs : Txt} {K : Value → Heap → Prop} (x : Tx h F t d T) (B : StrAt h a l bs) (hl : l ≤ 140737488355328) (ha : ∀ p, a = some p → ¬ F p.block) (hu : T.undo.length < 1000000000)
    (hK : ∀ h' F', Fr F h h' → Gw h F h' F' → Tx h' F' t d (T.write i bs).1 → K (.int .i64 (T.write i bs).2) h') : C.txn_Txn_Write t i a l c h K := by
  have hbl := B.1
  have hlt := fun b hb => x.lt (b := b) hb
  rcases x with ⟨col, r, rfl, X, hF⟩ | ⟨col, tb, rfl, X, hF⟩
  rotate_left
  · refine Write_pre (m1 := none) (W := []) (sA := none) (sL := 0) (sC := 0) (fun hq f => rda ((f.rd X.own.lt fun x => x).trans X.cell) rfl) (fun hq K' _ k => k) rfl fun h2 h7 wb ob _ f7 w1 o1 w2 o2 _ r1 _ _ _ => ?_
    have e0 : T.write i bs = (T, 61) := by unfold TM.write; rw [X.over, if_pos rfl]
    rw [e0] at hK
    have X7 := X.keep f7 fun _ _ _ _ x => x
    refine ⟨_, rdc r1 rfl, os ⟨_, rda X7.cell rfl, ct rfl ?_⟩⟩
    exact hK h7 F (f7.mono fun _ _ x => x.elim) (Gw.refl f7.size hlt) (.inr ⟨col, tb, rfl, X7, hF⟩)
  · have eput : aget T.put i = (aget r.ps i).map (·.2) := by rw [X.put]; exact aget_map (fun x : Sc × Txt => x.2) i r.ps
    have elen : T.put.length = r.ps.length := by rw [X.put, List.length_map]
    have eul : T.undo.length = r.us.length := by rw [X.undo, List.length_map]
    obtain ⟨sA, sL, sC, esl⟩ : ∃ (sA : Option Addr) (sL : Nat) (sC : Nat), wasV (aget r.ps i) = .slice sA sL sC := by
      cases aget r.ps i with
      | none => exact ⟨_, _, _, rfl⟩
      | some x => exact ⟨_, _, _, rfl⟩
    have esl2 : Option.getD (mget (mm (fun x : Sc × Txt => x.1.v) r.ps) (.i i)) (zeroV ti28) = .slice sA sL sC := by
      rw [mget_mm, ← esl]
      cases aget r.ps i <;> rfl
    refine Write_pre (m1 := some r.mb) (W := mm (fun x => x.1.v) r.ps) (fun hq f => rda ((f.rd X.own.lt fun x => x).trans X.cell) rfl) (fun hq K' f k => ⟨_, map_fr X.map f fun x => x, k⟩) esl2 fun h2 h8 wb ob s2 f w1 o1 w2 o2 hne r1 r2 rw' ro => ?_
    have eis : (mget (mm (fun x : Sc × Txt => x.1.v) r.ps) (.i i)).isSome = (aget r.ps i).isSome := by rw [mget_mm]; cases aget r.ps i <;> rfl
    rw [eis] at ro
    have X8 : TxC h8 col d r T := X.keep f (Ag.refl _ _) (fun b hb => X.nrm b (by have := f.size; omega)) (fun b hb y => by rw [X.nrm b hb] at y; omega) fun _ _ _ _ x => x
    have refuse : ∀ e h9, h9 = h8 → T.write i bs = (T, e) → K (.int .i64 e) h9 := fun e h9 e9 e0 => by
      subst e9
      rw [e0] at hK
      exact hK h9 F (f.mono fun _ _ x => x.elim) (Gw.refl f.size hlt) (.inl ⟨col, r, rfl, X8, hF⟩)
    have live := X.live
    have fs := f.size
    have tbl := X.own.lt
    have mbl := map_lt X.map
    have ctb := X.sc
    have cmb := X.mc
    rw [← s2] at r2
    refine ⟨_, rdc r1 rfl, os ⟨_, rda X8.cell rfl, cf rfl ⟨_, rdc r2 rfl, cd (fun hn => refuse 31 h8 rfl ?_) fun h98 => ⟨_, rdc r2 rfl, _, rdc r1 rfl, os ⟨_, rda X8.cell rfl, X8.dk.blocks ⟨_, rfl, rdc r2 rfl, cd (fun hn => refuse 31 h8 rfl ?_) fun hN => cn (fun h5 => refuse 32 h8 rfl ?_) fun h5 => ?_⟩⟩⟩⟩⟩⟩
    · unfold TM.write; rw [live, if_neg (by simp), if_pos (.inl hn)]
    · unfold TM.write; rw [live, if_neg (by simp), if_pos (.inr hn)]
    · unfold TM.write; rw [live, if_neg (by simp), if_neg (by rintro (x | x); exact h98 x; exact hN x), if_pos (by omega)]
    have hnot : ¬ (i < 98 ∨ i ≥ T.N) := by rintro (x | x); exact h98 x; exact hN x
    have h5' : bs.length = 512 := by omega
    refine os ⟨_, rdc ro rfl, ?_⟩
    by_cases hbig : aget r.ps i = none ∧ r.ps.length ≥ 96
    · refine ct (by rw [hbig.1]; rfl) ⟨_, rdc r1 rfl, os ⟨_, rda X8.cell rfl, _, X8.map, ?_⟩⟩
      dsimp only
      rw [mm_length]
      refine ct (decide_eq_true (by omega)) (refuse 60 h8 rfl ?_)
      unfold TM.write; rw [live, if_neg (by simp), if_neg hnot, if_neg (by omega), if_pos ⟨by rw [eput, hbig.1]; rfl, by omega⟩]
    have e0 : T.write i bs = ({ T with put := aput T.put i bs, undo := T.undo ++ [(i, aget T.put i)] }, 0) := by
      unfold TM.write; rw [live, if_neg (by simp), if_neg hnot, if_neg (by omega), if_neg]
      rw [eput, elen]
      rintro ⟨x1, x2⟩
      refine hbig ⟨?_, x2⟩
      cases e : aget r.ps i with
      | none => rfl
      | some y => rw [e] at x1; cases x1
    rw [e0] at hK
    refine tl ?_ fun ho go => ?_
    rotate_left
    · have hnone : aget r.ps i = none := by
        cases e : aget r.ps i with
        | none => rfl
        | some x => rw [e] at ho; cases ho
      refine ⟨_, rdc r1 rfl, os ⟨_, rda X8.cell rfl, _, X8.map, ?_⟩⟩
      dsimp only
      rw [mm_length]
      exact cf (decide_eq_false fun hx => hbig ⟨hnone, by omega⟩) go
    -- the put
    have k1 : ∀ {b : Nat}, b < h.size → col b ≠ 3 → ¬ On col 3 b := fun _ hb x => hb x
    refine ⟨_, rdc r1 rfl, _, rdc r1 rfl, os ⟨_, _, _, rda X8.cell rfl, New.intro fun h10 n10 => ?_⟩⟩
    have s10 := n10.size
    have X10 : TxC h10 col d r T := X8.keep n10.fr (Ag.refl _ _) (fun b hb => X.nrm b (by omega)) (fun b hb y => by rw [X.nrm b (by omega)] at y; omega) fun _ _ _ _ x => x
    have r1' := (n10.at_ (show h.size < h8.size by omega)).trans r1
    have r2' := (n10.at_ (show h2.size < h8.size by omega)).trans r2
    refine ⟨rdc r1' rfl, rdc r1' rfl, rda X10.cell rfl, _, rfl, cellsAll n10.rd, by intro v hv; rw [List.mem_singleton.mp hv]; rfl, ?_⟩
    refine append_own X10.un rfl rfl (by show (r.us.length + 1) * _ ≤ _; have b16 : ti1.bytes ≤ 16 := (by decide); have := Nat.mul_le_mul (show r.us.length + 1 ≤ 1000000001 from (by omega)) b16; exact Nat.le_trans this (by decide)) (by omega) fun a' c' h11 f11 s11 => ?_
    have z11 := f11.size
    have nz : ∀ b, h.size ≤ b → ¬ On col 3 b := fun b hb x => by have x : col b = 3 := x; rw [X.nrm b hb] at x; omega
    have nt : ¬ On col 3 r.tb := fun x => by have x : col r.tb = 3 := x; omega
    have nm : ¬ On col 3 r.mb := fun x => by have x : col r.mb = 3 := x; omega
    have g1 : rd h11 h.size = [.pointer (some ⟨r.tb, 0, none⟩)] := (f11.rd (by omega) (nz _ (Nat.le_refl _))).trans r1'
    have g2 : rd h11 h2.size = [.int .i64 i] := (f11.rd (by omega) (nz _ (by omega))).trans r2'
    have gt := (f11.rd X10.own.lt nt).trans X10.cell
    have gw : rd h11 wb = [wasV (aget r.ps i)] := by rw [esl]; exact (f11.rd (by omega) (nz _ (by omega))).trans ((n10.at_ w2).trans rw')
    have go' : rd h11 ob = [.bool (aget r.ps i).isSome] := (f11.rd (by omega) (nz _ (by omega))).trans ((n10.at_ o2).trans ro)
    refine ⟨rdc g1 rfl, os (Put.add (f11.own X10.own.lt nt X10.own) (by rw [gt]; show 0 + 2 < 4; omega) fun h12 d12 => ?_)⟩
    have s12 := d12.size
    have g1 : rd h12 h.size = [.pointer (some ⟨r.tb, 0, none⟩)] := (d12.at_ (by omega) (by omega)).trans g1
    have g2 : rd h12 h2.size = [.int .i64 i] := (d12.at_ (by omega) (by omega)).trans g2
    have gw := (d12.at_ (show wb < h11.size by omega) (by omega)).trans gw
    have go' := (d12.at_ (show ob < h11.size by omega) (by omega)).trans go'
    have gt : rd h12 r.tb = [.pointer d, .map (some r.mb), .slice a' (r.us.length + 1) c', .bool false] := d12.rd.trans (by rw [gt]; rfl)
    have nF : ∀ p, a = some p → ¬ F p.block := ha
    have B12 : StrAt h12 a l bs := StrAt.fr d12.fr (StrAt.fr f11 (StrAt.fr n10.fr (StrAt.fr f B fun _ _ x => x) fun _ _ x => x) fun q e y => ha q e ((hF _).mpr (by have y : col q.block = 3 := y; omega))) fun q e y => ha q e ((hF _).mpr (by rw [y]; omega))
    refine ⟨_, rdc g1 rfl, os ⟨_, rda gt rfl, _, rdc g2 rfl, Clone_any B12 hl fun aq cq h13 f13 s13 => ?_⟩⟩
    have z13 := f13.size
    have g1 : rd h13 h.size = [.pointer (some ⟨r.tb, 0, none⟩)] := (f13.rd (by omega) fun x => x).trans g1
    have g2 : rd h13 h2.size = [.int .i64 i] := (f13.rd (by omega) fun x => x).trans g2
    have gw := (f13.rd (show wb < h12.size by omega) fun x => x).trans gw
    have go' := (f13.rd (show ob < h12.size by omega) fun x => x).trans go'
    have gt := (f13.rd (by omega) fun x => x).trans gt
    have ot := f13.own d12.own.lt (fun x => x) d12.own
    have hmt : r.mb ≠ r.tb := fun e => by rw [e] at cmb; omega
    have m13 : MapAt DI h13 r.mb (mm (fun x => x.1.v) r.ps) := map_fr (map_fr (map_fr X10.map f11 nm) d12.fr hmt) f13 fun x => x
    refine ⟨_, _, _, rfl, rdc g1 rfl, rda gt rfl, rdc g2 rfl, os ⟨_, m13, fun h14 t14 => ?_⟩⟩
    have f14 := mapTo_fr t14
    have z14 := t14.size
    have m14 := t14.at_
    rw [show Value.slice aq l cq = (fun x : Sc × Txt => x.1.v) (⟨aq, l, cq⟩, bs) from rfl, mput_mm] at m14
    have G : Fr (fun b => col b = 3 ∨ b = r.tb ∨ b = r.mb) h h14 :=
      ((((((f.new n10).mono (G := fun b => col b = 3 ∨ b = r.tb ∨ b = r.mb) fun _ _ x => x.elim).trans f11 fun b _ x => Or.inl x).did d12 fun _ => Or.inr (Or.inl rfl)).no f13).trans f14 fun b _ x => Or.inr (Or.inr x))
    -- the colours
    have ub : ∀ p, a' = some p → (col p.block = 3 ∨ h10.size ≤ p.block) ∧ p.block < h11.size := by
      rintro p rfl; exact ⟨s11.2.2.1, s11.lt⟩
    have qb : ∀ p, aq = some p → h12.size ≤ p.block ∧ p.block < h13.size := by
      rintro p rfl; exact ⟨s13.2.2.1, s13.lt⟩
    obtain ⟨col', ag, cz, c4, c3, cq4, c5⟩ : ∃ col' : Nat → Nat, Ag h.size col col' ∧ (∀ b, h14.size ≤ b → col' b = 0) ∧ (∀ b, b = h.size ∨ b = h2.size ∨ b = wb ∨ b = ob → col' b = 4) ∧ (∀ p, a' = some p → col' p.block = 3) ∧ (∀ p, aq = some p → col' p.block = 4) ∧ (∀ b, h.size ≤ b → col' b = 0 ∨ col' b = 3 ∨ col' b = 4) := by
      refine ⟨fun b => if b < h.size then col b else if b = h.size ∨ b = h2.size ∨ b = wb ∨ b = ob then 4 else if a'.map (·.block) = some b then 3 else if aq.map (·.block) = some b then 4 else 0, fun b hb => if_pos hb, fun b hb => ?_, fun b hb => ?_, fun p e => ?_, fun p e => ?_, fun b hb => ?_⟩
      · show (if _ then _ else if _ then _ else if _ then _ else if _ then _ else _) = _
        rw [if_neg (by omega), if_neg (by omega), if_neg, if_neg]
        · intro e
          cases haq : aq with
          | none => rw [haq] at e; cases e
          | some p => rw [haq] at e; have := (qb p haq).2; have e : p.block = b := Option.some.inj e; omega
        · intro e
          cases haq : a' with
          | none => rw [haq] at e; cases e
          | some p => rw [haq] at e; have := (ub p haq).2; have e : p.block = b := Option.some.inj e; omega
      · show (if _ then _ else if _ then _ else if _ then _ else if _ then _ else _) = _
        rw [if_neg (by omega), if_pos hb]
      · show (if _ then _ else if _ then _ else if _ then _ else if _ then _ else _) = _
        have := ub p e
        rcases Nat.lt_or_ge p.block h.size with h1 | h1
        · rw [if_pos h1]
          rcases this.1 with h3 | h3
          · exact h3
          · omega
        · have h3 : h10.size ≤ p.block := by
            rcases this.1 with h3 | h3
            · rw [X.nrm _ h1] at h3; omega
            · exact h3
          rw [if_neg (by omega), if_neg (by omega), if_pos (by rw [e]; rfl)]
      · show (if _ then _ else if _ then _ else if _ then _ else if _ then _ else _) = _
        have := qb p e
        rw [if_neg (by omega), if_neg (by omega), if_neg, if_pos (by rw [e]; rfl)]
        intro e2
        cases ha' : a' with
        | none => rw [ha'] at e2; cases e2
        | some q => rw [ha'] at e2; have := (ub q ha').2; have e2 : q.block = p.block := Option.some.inj e2; omega
      · show (if _ then _ else if _ then _ else if _ then _ else if _ then _ else _) = 0 ∨ (if _ then _ else if _ then _ else if _ then _ else if _ then _ else _) = 3 ∨ (if _ then _ else if _ then _ else if _ then _ else if _ then _ else _) = 4
        rw [if_neg (by omega)]
        split
        · exact .inr (.inr rfl)
        · split
          · exact .inr (.inl rfl)
          · split
            · exact .inr (.inr rfl)
            · exact .inl rfl
    have k4 : ∀ b, b < h.size → col b = 4 → ¬ (col b = 3 ∨ b = r.tb ∨ b = r.mb) := by
      rintro b _ e (x | x | x)
      · omega
      · rw [x] at e; omega
      · rw [x] at e; omega
    have hF' : Gw h F h14 (fun b => 1 ≤ col' b ∧ col' b ≤ 5) := ⟨fun b hb => by rw [hF b, ag b hb], fun b hb => by
      rcases Nat.lt_or_ge b h14.size with h1 | h1
      · exact h1
      · have hb : 1 ≤ col' b ∧ col' b ≤ 5 := hb
        rw [cz b h1] at hb; omega⟩
    refine hK h14 (fun b => 1 ≤ col' b ∧ col' b ≤ 5) (G.mono fun b _ x => (hF b).mpr ?_) hF' (.inl ⟨col', ⟨r.tb, r.mb, a', c', aput r.ps i (⟨aq, l, cq⟩, bs), r.us ++ [⟨i, aget r.ps i, ob, wb, h.size, h2.size⟩]⟩, rfl, ⟨cz, (ag _ tbl).trans ctb, ?_, ?_, (ag _ mbl).trans cmb, m14, ?_, fun p hp => ?_, fun u hu => ?_, ?_, ?_, live, ?_, fun p hp => ?_, fun u hu => ?_⟩, fun b => Iff.rfl⟩)
    · rcases x with x | rfl | rfl <;> omega
    · exact f14.own ot.lt (fun x => hmt x.symm) ot
    · rw [List.length_append, List.length_singleton]
      exact (f14.rd ot.lt fun x => hmt x.symm).trans gt
    · rw [List.length_append, List.length_singleton, List.map_append]
      have u14 := ((s11.fr d12.fr fun b hb x e => ?_).fr f13 fun _ _ _ x => x).fr f14 fun b hb x e => ?_
      · obtain ⟨y1, y2⟩ := u14
        refine ⟨y1, ?_⟩
        revert y2 c3
        cases a' with
        | none => intro _ y2; exact y2
        | some p => intro c3 y2; obtain ⟨v1, v2, v3⟩ := y2; exact ⟨v1, c3 p rfl, v3⟩
      · rw [e] at x
        rcases x with x | x
        · have x : col r.tb = 3 := x; omega
        · omega
      · have e : b = r.mb := e
        rw [e] at x
        rcases x with x | x
        · have x : col r.mb = 3 := x; omega
        · omega
    · rcases aput_mem hp with rfl | hp
      · refine ⟨StrAt.fr f14 ?_ ?_, h5', fun p e => ⟨by have := (qb p e).2; omega, cq4 p e⟩⟩
        · refine ⟨hbl, ?_⟩
          exact s13.cells
        · intro p e x
          have := (qb p e).1
          have x : p.block = r.mb := x
          omega
      · exact (X.pok p hp).keep G ag k4
    · rcases List.mem_append.mp hu with hu | hu
      · exact (X.uok u hu).keep G ag k4
      · rw [List.mem_singleton.mp hu]
        have fr : ∀ b, h.size ≤ b → b < h13.size → rd h14 b = rd h13 b := fun b hb hb2 => f14.rd hb2 fun e => by have e : b = r.mb := e; omega
        refine ⟨(fr ob (by omega) (by omega)).trans go', (fr wb (by omega) (by omega)).trans gw, (fr h.size (by omega) (by omega)).trans g1, (fr h2.size (by omega) (by omega)).trans g2, fun b hb => ⟨?_, c4 b ?_⟩, fun y ey => ?_⟩
        · have hb : b = ob ∨ b = wb ∨ b = h.size ∨ b = h2.size := hb
          omega
        · rcases hb with rfl | rfl | rfl | rfl
          · exact .inr (.inr (.inr rfl))
          · exact .inr (.inr (.inl rfl))
          · exact .inl rfl
          · exact .inr (.inl rfl)
        · exact (X.pok _ (aget_mem ey)).keep G ag k4
    · show aput T.put i bs = _
      rw [X.put]
      exact aput_map (fun x : Sc × Txt => x.2) i (⟨aq, l, cq⟩, bs) r.ps
    · show T.undo ++ [(i, aget T.put i)] = _
      rw [X.undo, eput, List.map_append]; rfl
    · refine (X.dk.fr G fun b hb => ?_).iff fun b => ?_
      · have hb : col b = 5 := hb
        rintro (x | x | x)
        · omega
        · rw [x] at hb; omega
        · rw [x] at hb; omega
      · show col' b = 5 ↔ col b = 5
        rcases Nat.lt_or_ge b h.size with h1 | h1
        · rw [ag b h1]
        · have := c5 b h1
          have := X.nrm b h1
          omega
    · rcases aput_mem hp with rfl | hp
      · exact ⟨by omega, by have : ¬ i ≥ (T.N : Int) := fun y => hnot (.inr y); show i < (T.N : Int); omega⟩
      · exact X.pk p hp
    · rcases List.mem_append.mp hu with hu | hu
      · exact X.ui u hu
      · rw [List.mem_singleton.mp hu]
        exact ⟨by show 98 ≤ i; omega, by have : ¬ i ≥ (T.N : Int) := fun y => hnot (.inr y); show i < (T.N : Int); omega⟩
end Go.Proofs.YtpleolmalbdpnaaDoor.Tm
