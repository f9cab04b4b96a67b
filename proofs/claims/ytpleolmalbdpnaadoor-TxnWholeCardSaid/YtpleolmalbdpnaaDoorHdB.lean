import Derived.Test.YtpleolmalbdpnaaDoorReA
/-
  PACKAGE head: what its functions compute.
-/
namespace Go.Proofs.YtpleolmalbdpnaaDoor.Hd
open Go Go.Proofs Go.Proofs.YtpleolmalbdpnaaDoor.Wx Go.Proofs.YtpleolmalbdpnaaDoor.Hp Go.Proofs.YtpleolmalbdpnaaDoor.W Go.Proofs.YtpleolmalbdpnaaDoor.Su Go.Proofs.YtpleolmalbdpnaaDoor.Re

/-- a row of slices of bytes -/
structure Sc where
  a : Option Addr
  l : Nat
  c : Nat
def Sc.v (s : Sc) : Value := .slice s.a s.l s.c
structure Dat (h : Heap) (a : Option Addr) (l : Nat) (ss : List Sc) (ds : List (List UInt8)) : Prop where
  cells : SlCells h a (ss.map Sc.v)
  num : ss.length = l
  len : ss.length = ds.length
  at_ : ∀ i (h1 : i < ss.length) (h2 : i < ds.length), StrAt h ss[i].a ss[i].l ds[i]
theorem Dat.fr {h h' : Heap} {a : Option Addr} {l : Nat} {ss : List Sc} {ds : List (List UInt8)} (d : Dat h a l ss ds) (f : Fr No h h') : Dat h' a l ss ds :=
  ⟨SlCells.fr f d.cells fun _ _ x => x, d.num, d.len, fun i h1 h2 => StrAt.fr f (d.at_ i h1 h2) fun _ _ x => x⟩
theorem Dat.get {h : Heap} {a : Option Addr} {l : Nat} {ss : List Sc} {ds : List (List UInt8)} (d : Dat h a l ss ds) {i : Nat} (hi : i < l) :
    ∃ p s b, a = some p ∧ cellOf h (p.add i) = some (Sc.v s) ∧ ds[i]? = some b ∧ StrAt h s.a s.l b := by
  have h1 := d.num
  have h2 := d.len
  have h3 : i < ss.length := by omega
  have h4 : i < ds.length := by omega
  have c := d.cells
  cases a with
  | none => have c : ss.map Sc.v = [] := c; have := List.map_eq_nil_iff.mp c; rw [this] at h3; exact absurd h3 (by simp)
  | some p => exact ⟨p, ss[i], ds[i], rfl, c i _ (by rw [List.getElem?_map, List.getElem?_eq_getElem h3]; rfl), List.getElem?_eq_getElem h4, d.at_ i h3 h4⟩
def ints (ns : List Int) : List Value := ns.map fun n => .int .i64 n
theorem ints_get {h : Heap} {a : Option Addr} {ns : List Int} (c : SlCells h a (ints ns)) {i : Nat} (hi : i < ns.length) : ∃ p, a = some p ∧ cellOf h (p.add i) = some (.int .i64 ns[i]) := by
  cases a with
  | none => have c : ints ns = [] := c; have := List.map_eq_nil_iff.mp c; rw [this] at hi; exact absurd hi (by simp)
  | some p => exact ⟨p, rfl, c i _ (by rw [ints, List.getElem?_map, List.getElem?_eq_getElem hi]; rfl)⟩

/-- numbers that rise from above last, below n -/
def okGo (n : Int) : Int → List Int → Bool
  | _, [] => true
  | last, i :: r => !(decide (i ≤ last) || decide (i ≥ n)) && okGo n i r
def mayM (ns : List Int) (n : Int) : Bool := okGo n 97 ns && (decide ((ns.length : Int) ≥ 1) && decide ((ns.length : Int) ≤ 96))
theorem c1_spec {bl bn : Nat} {i last n : Int} {h : Heap} {K : Value → Heap → Prop} (o : Own h bl) (r : rd h bl = [.int .i64 last]) (rn : rd h bn = [.int .i64 n]) (hne : bl ≠ bn)
    (hK : ∀ h', Did bl h h' [.int .i64 i] → K (.bool (decide (i ≤ last) || decide (i ≥ n))) h') : C.head_may_c1 i (some ⟨bl, 0, none⟩) (some ⟨bn, 0, none⟩) h K := by
  refine head_may_c1.ok (os ⟨last, rdc r rfl, os (Put.intro o (by rw [r]; exact (by decide : 0 < 1)) fun h2 d2 => ?_)⟩)
  rw [r] at d2
  have k := hK h2 d2
  refine cd (fun hi => ?_) fun hi => os ⟨n, ?_, ?_⟩
  · rw [decide_eq_true hi] at k; exact k
  · have hlt : bn < h.size := rd_lt (show (rd h bn)[0]? = some (.int .i64 n) by rw [rn]; rfl)
    exact rdc ((d2.at_ hlt (fun e => hne e.symm)).trans rn) rfl
  · rw [decide_eq_false hi] at k; exact k
theorem may_spec {a : Option Addr} {l c : Nat} {ns : List Int} {n : Int} {h : Heap} {K : Value → Heap → Prop} (B : SlCells h a (ints ns)) (hn : ns.length = l) (hl : l ≤ 140737488355328)
    (hK : ∀ h', Fr No h h' → K (.bool (mayM ns n)) h') : C.head_may a l c n h K := by
  refine head_may.ok (New.intro fun h2 n2 => New.intro fun h3 n3 => Put.intro n3.own (by rw [n3.rd]; exact Nat.one_pos) fun h4 d4 => ?_)
  have hs2 := n2.size
  have hs3 := n3.size
  have hs4 := d4.fr.size
  have F4 : Fr No h h4 := (n2.fr.no n3.fr).did d4 fun x => by omega
  refine ⟨fun k hh => 0 ≤ k ∧ k ≤ l ∧ Fr No h hh ∧ rd hh h.size = [.int .i64 n] ∧ Own hh h2.size ∧ ∃ last, rd hh h2.size = [.int .i64 last] ∧ okGo n 97 ns = okGo n last (ns.drop k.toNat), fun k _ => ((l : Int) - k).toNat,
    ⟨by omega, by omega, F4, (d4.at_ (by omega) (by omega)).trans ((n3.at_ n2.own.lt).trans n2.rd), d4.own, 97, by rw [d4.rd, n3.rd]; rfl, rfl⟩, ?_⟩
  rintro k h5 ⟨k0, k1, f5, r5, o5, last, rl, e⟩
  refine cd (fun hk => ?_) fun hk => ?_
  · have hk' : k.toNat < ns.length := by omega
    obtain ⟨p, rfl, c5⟩ := ints_get (SlCells.fr f5 B fun _ _ x => x) hk'
    refine ⟨⟨k0, hk⟩, os ⟨_, c5, c1_spec o5 rl r5 (by omega) fun h6 d6 => ⟨_, rfl, ?_⟩⟩⟩
    have f6 := f5.did d6 fun x => by omega
    rw [List.drop_eq_getElem_cons hk', okGo] at e
    refine cs (fun hb => ?_) fun hb => ?_
    · rw [hb] at e
      have : mayM ns n = false := by rw [mayM, e]; rfl
      have k6 := hK h6 f6
      rw [this] at k6; exact k6
    · rw [hb] at e
      rw [wrap_i64 (by omega) (by omega)]
      exact ⟨⟨by omega, by omega, f6, (d6.at_ (rd_lt (show (rd h5 h.size)[0]? = some (.int .i64 n) by rw [r5]; rfl)) (by omega)).trans r5, d6.own, _, d6.rd, by rw [e, show (k + 1).toNat = k.toNat + 1 by omega]; rfl⟩, falls hk⟩
  · rw [List.drop_of_length_le (by omega)] at e
    have k5 := hK h5 f5
    have e1 : okGo n 97 ns = true := e
    unfold mayM at k5
    rw [e1, hn] at k5
    refine cd (fun h1 => ?_) fun h1 => ?_
    · rw [decide_eq_true h1] at k5; exact k5
    · rw [decide_eq_false h1] at k5; exact k5
def blM (ds : List (List UInt8)) (n : Int) : Bool := ds.all (fun d => d.length == 512) && ((ds.length : Int) == n)
theorem areBlocks_spec {a : Option Addr} {l c : Nat} {ss : List Sc} {ds : List (List UInt8)} {n : Int} {h : Heap} {K : Value → Heap → Prop} (D : Dat h a l ss ds) (hl : l ≤ 140737488355328)
    (hK : K (.bool (blM ds n)) h) : C.head_areBlocks a l c n h K := by
  have h1 := D.num
  have h2 := D.len
  refine head_areBlocks.ok ⟨fun k hh => 0 ≤ k ∧ k ≤ l ∧ h = hh ∧ ds.all (fun d => d.length == 512) = (ds.drop k.toNat).all (fun d => d.length == 512), fun k _ => ((l : Int) - k).toNat, ⟨by omega, by omega, rfl, rfl⟩, ?_⟩
  rintro k _ ⟨k0, k1, rfl, e⟩
  refine cd (fun hk => ?_) fun hk => ?_
  · obtain ⟨p, s, b, rfl, cp, hb, S⟩ := D.get (i := k.toNat) (by omega)
    have hk' : k.toNat < ds.length := by omega
    rw [List.getElem?_eq_getElem hk'] at hb
    have hb := Option.some.inj hb
    rw [List.drop_eq_getElem_cons hk', List.all_cons, hb] at e
    have sl := S.1
    refine ⟨⟨k0, hk⟩, os ⟨_, _, _, cp, cn (fun x => ?_) fun x => ?_⟩⟩
    · have : (b.length == 512) = false := by rw [beq_eq_false_iff_ne]; omega
      rw [this] at e
      rw [blM, e] at hK; exact hK
    · have : (b.length == 512) = true := by rw [beq_iff_eq]; omega
      rw [this] at e
      rw [wrap_i64 (by omega) (by omega)]
      exact ⟨⟨by omega, by omega, rfl, by rw [e, show (k + 1).toNat = k.toNat + 1 by omega]; rfl⟩, falls hk⟩
  · rw [List.drop_of_length_le (by omega)] at e
    rw [blM, e, ← h2, h1] at hK; exact hK
theorem Clone_spec {p : Addr} {l c : Nat} {bs : List UInt8} {h : Heap} {K : Value → Heap → Prop} (B : StrAt h (some p) l bs) (hl : l ≤ 140737488355328)
    (hK : ∀ a' c' h', Fr No h h' → Sl h' 1 a' l c' (bs.map bv) (From h.size) → K (.slice a' l c') h') : C.bytes_Clone (some p) l c h K := by
  refine bytes_Clone.ok (cf rfl (New.intro fun h2 n2 => ?_))
  have hs2 := n2.size
  obtain ⟨s1, s2, s3⟩ := StrAt.src (StrAt.fr n2.fr B (fun _ _ x => x))
  refine ⟨_, s1, s2, s3, ?_⟩
  refine append_own (xs := []) (F := From h.size) (Sl.made n2 rfl (Nat.le_refl _) rfl (Nat.le_refl _) rfl) s1 rfl (by show (0 + l) * 1 ≤ _; omega) (by omega) fun a' c' h' f s => ?_
  rw [Nat.zero_add, List.nil_append] at s
  rw [Nat.zero_add]
  exact hK a' c' h' (n2.fr.trans f fun b hb e => by have : h.size ≤ b := e; omega) (s.mono fun b hb => by rcases hb with hb | hb; exact hb; show h.size ≤ b; omega)
def sumM (hd : List UInt8) (ds : List (List UInt8)) : Int := ds.foldl (fun s d => joinM s (ofM d) d.length) (ofM (putU hd 12 (leB 4 0)))
theorem sumGo_range (ds : List (List UInt8)) : ∀ s, U32 s → U32 (ds.foldl (fun s d => joinM s (ofM d) d.length) s) := by
  induction ds with
  | nil => intro s h; exact h
  | cons d r ih => intro s _; exact ih _ (join_range _ _ _)
theorem sum_range (hd : List UInt8) (ds : List (List UInt8)) : U32 (sumM hd ds) := sumGo_range _ _ (of_range _)
theorem sumOf_spec {a da : Option Addr} {l c dl dc : Nat} {hd : List UInt8} {ss : List Sc} {ds : List (List UInt8)} {h : Heap} {K : Value → Heap → Prop} (g : Glo h) (B : StrAt h a l hd) (hl : l = 512) (D : Dat h da dl ss ds) (hdl : dl ≤ 140737488355328)
    (hds : ∀ d ∈ ds, d.length ≤ 1099511627776) (hK : ∀ h', Fr No h h' → K (.int .u32 (sumM hd ds)) h') : C.head_sumOf a l c da dl dc h K := by
  have hb := B.1
  have hn := D.num
  have hlen := D.len
  cases a with
  | none => have := B.2; have : hd.map bv = [] := this; have := List.map_eq_nil_iff.mp this; rw [this] at hb; simp at hb; omega
  | some p =>
  refine head_sumOf.ok (Clone_spec B (by omega) fun a2 c2 h2 f2 s2 => ⟨_, _, _, rfl, ?_⟩)
  have g2 := g.no f2
  obtain ⟨p2, rfl, _⟩ := s2.get (by omega)
  have hp2 := s2.mk
  obtain ⟨b2, o2, sp⟩ := p2
  have hp2 : sp = none := by simpa using hp2
  subst hp2
  have hge : h.size ≤ b2 := s2.2.2.1
  refine Put_spec (v := 0) g2 s2 (by omega) (by omega) (by omega) (by omega) (by decide) fun h3 f3 s3 => ⟨_, rfl, ?_⟩
  have F3 : Fr No h h3 := f2.trans f3 fun x hx e => by have : x = b2 := e; omega
  have g3 := g.no F3
  refine Su.Of_spec g3.half s3.str (by omega) ⟨_, rfl, ?_⟩
  refine ⟨fun s k hh => 0 ≤ k ∧ k ≤ dl ∧ Fr No h hh ∧ U32 s ∧ s = (ds.take k.toNat).foldl (fun s d => joinM s (ofM d) d.length) (ofM (putU hd 12 (leB 4 0))), fun _ k _ => ((dl : Int) - k).toNat, ⟨by omega, by omega, F3, of_range _, rfl⟩, ?_⟩
  rintro s k h5 ⟨k0, k1, f5, us, es⟩
  refine cd (fun hk => ?_) fun hk => ?_
  · obtain ⟨q, sc, d, rfl, cq, hd', S⟩ := (D.fr f5).get (i := k.toNat) (by omega)
    have hk' : k.toNat < ds.length := by omega
    rw [List.getElem?_eq_getElem hk'] at hd'
    have hd' := Option.some.inj hd'
    have hdm := hds _ (List.getElem_mem hk')
    rw [hd'] at hdm
    have sl := S.1
    have g5 := g.no f5
    refine ⟨⟨k0, hk⟩, os ⟨_, _, _, cq, Su.Of_spec g5.half S (by omega) ⟨_, rfl, Join_spec g5.half us (by omega) (by omega) fun h7 f7 => ⟨_, _, rfl, ?_⟩⟩⟩⟩
    rw [wrap_i64 (by omega) (by omega)]
    refine ⟨⟨by omega, by omega, f5.no f7, join_range _ _ _, ?_⟩, falls hk⟩
    rw [show (k + 1).toNat = k.toNat + 1 by omega, List.take_succ_eq_append_getElem hk', List.foldl_append, ← es, hd']
    show joinM s (ofM d) (sc.l : Int) = joinM s (ofM d) (d.length : Int)
    rw [sl]
  · rw [List.take_of_length_le (by omega)] at es
    rw [es]; exact hK h5 f5
def zeros (n : Nat) : List UInt8 := List.replicate n 0
theorem zeros_add (m n : Nat) : zeros (m + n) = zeros m ++ zeros n := List.replicate_append_replicate.symm
theorem zeros_length (n : Nat) : (zeros n).length = n := List.length_replicate
theorem Empty_spec {h : Heap} {K : Value → Heap → Prop} (hK : ∀ h', Newly h h' ((zeros 512).map bv) → K (.slice (some ⟨h.size, 0, none⟩) 512 512) h') : C.head_Empty h K := by
  refine head_Empty.ok ⟨⟨by decide, by decide, by decide, by decide⟩, New.intro fun h2 n2 => hK h2 ?_⟩
  have e : repCells z5 (Int.toNat 512) = (zeros 512).map bv := by rw [zeros, List.map_replicate]; rfl
  rw [← e]; exact n2
def magicL : List UInt8 := [66, 79, 76, 69, 76, 79, 71, 49]
def flat4 (ns : List Int) : List UInt8 := ns.flatMap fun i => leB 4 i.toNat
def laidM (ns : List Int) (s : Nat) : List UInt8 := magicL ++ leB 2 ns.length ++ zeros 2 ++ leB 4 s ++ flat4 ns ++ zeros (496 - 4 * ns.length)
theorem flat4_length (ns : List Int) : (flat4 ns).length = 4 * ns.length := by
  induction ns with
  | nil => rfl
  | cons n r ih =>
    have e : flat4 (n :: r) = leB 4 n.toNat ++ flat4 r := rfl
    rw [e, List.length_append, leB_length, ih, List.length_cons]; omega
theorem laid_length (ns : List Int) (s : Nat) (h : ns.length ≤ 124) : (laidM ns s).length = 512 := by
  simp only [laidM, List.length_append, leB_length, zeros_length, flat4_length]
  show 8 + 2 + 2 + 4 + 4 * ns.length + (496 - 4 * ns.length) = 512
  omega
/-- another sum -/
theorem laid_put (ns : List Int) (s t : Nat) : putU (laidM ns s) 12 (leB 4 t) = laidM ns t := by
  have hx : (magicL ++ leB 2 ns.length ++ zeros 2).length = 12 := by simp only [List.length_append, leB_length, zeros_length]; rfl
  have := putU_app (magicL ++ leB 2 ns.length ++ zeros 2) (leB 4 s) (flat4 ns ++ zeros (496 - 4 * ns.length)) (leB 4 t) (by rw [leB_length, leB_length])
  rw [hx] at this
  simp only [laidM, List.append_assoc] at this ⊢
  exact this
theorem leB_zero : leB 4 0 = zeros 4 := by decide
theorem okGo_mem {n : Int} : ∀ (ns : List Int) (last : Int), okGo n last ns = true → ∀ x ∈ ns, last < x ∧ x < n := by
  intro ns
  induction ns with
  | nil => intro _ _ x hx; exact absurd hx List.not_mem_nil
  | cons i r ih =>
    intro last h x hx
    rw [okGo, Bool.and_eq_true, Bool.not_eq_true', Bool.or_eq_false_iff] at h
    obtain ⟨⟨h1, h2⟩, h3⟩ := h
    have h1 := of_decide_eq_false h1
    have h2 := of_decide_eq_false h2
    rcases List.mem_cons.mp hx with rfl | hx
    · omega
    · have := ih i h3 x hx; omega
theorem mayM_mem {ns : List Int} {n : Int} (h : mayM ns n = true) : (∀ x ∈ ns, 97 < x ∧ x < n) ∧ 1 ≤ ns.length ∧ ns.length ≤ 96 := by
  rw [mayM, Bool.and_eq_true, Bool.and_eq_true] at h
  have h1 := of_decide_eq_true h.2.1
  have h2 := of_decide_eq_true h.2.2
  exact ⟨okGo_mem ns 97 h.1, by omega, by omega⟩
theorem wrap_u64 {n : Int} (h0 : 0 ≤ n) (h1 : n < 18446744073709551616) : IntKind.wrap .u64 n = n := by
  show n % 18446744073709551616 = n
  exact Int.emod_eq_of_lt h0 h1
theorem Make_spec {na da : Option Addr} {nl nc dl dc : Nat} {ns : List Int} {ss : List Sc} {ds : List (List UInt8)} {h : Heap} {K : Value → Heap → Prop} (g : Glo h) (B : SlCells h na (ints ns)) (hn : ns.length = nl) (hnl : nl ≤ 140737488355328) (D : Dat h da dl ss ds) (hdl : dl ≤ 140737488355328)
    (h1 : mayM ns 16384 = false → ∀ h', Fr No h h' → K (.tuple #[.slice none 0 0, .int .i64 40]) h')
    (h2 : mayM ns 16384 = true → blM ds ns.length = false → ∀ h', Fr No h h' → K (.tuple #[.slice none 0 0, .int .i64 32]) h')
    (h3 : mayM ns 16384 = true → blM ds ns.length = true → ∀ b h', Fr No h h' → h.size ≤ b → Sl h' 1 (some ⟨b, 0, none⟩) 512 512 ((laidM ns (sumM (laidM ns 0) ds).toNat).map bv) (fun x => x = b) → K (.tuple #[.slice (some ⟨b, 0, none⟩) 512 512, .int .i64 0]) h') :
    C.head_Make na nl nc da dl dc h K := by
  refine head_Make.ok (may_spec B hn hnl fun h2' f2 => ⟨_, rfl, cnot (cs (fun hm => ?_) fun hm => h1 hm _ f2)⟩)
  refine areBlocks_spec (D.fr f2) hdl ⟨_, rfl, cnot (cs (fun hb => ?_) fun hb => h2 hm (by rw [hn]; exact hb) _ f2)⟩
  rw [← hn] at hb
  have k := h3 hm hb
  obtain ⟨hmem, hl1, hl2⟩ := mayM_mem hm
  have hbl : ∀ d ∈ ds, d.length ≤ 1099511627776 := fun d hd => by
    rw [blM, Bool.and_eq_true] at hb
    have := List.all_eq_true.mp hb.1 d hd
    rw [beq_iff_eq] at this; omega
  refine Empty_spec fun h4 n4 => ⟨_, _, _, rfl, ?_⟩
  have hs4 := n4.size
  have F4 := f2.new n4
  have g4 := g.no F4
  have hs2 := f2.size
  have new : h.size ≤ h2'.size := hs2
  have s4 : Sl h4 1 (some ⟨h2'.size, 0, none⟩) 512 512 ((zeros 512).map bv) (fun b => b = h2'.size) := Sl.made n4 (by rw [List.append_nil]) rfl (by rw [List.length_map, zeros_length]) (Nat.le_refl _) rfl
  have fr : ∀ {h' h'' : Heap}, Fr No h h' → Fr (fun x => x = h2'.size) h' h'' → Fr No h h'' := fun f f' => f.trans f' fun x hx e => by have : x = h2'.size := e; omega
  refine PutText_spec (n := 8) (ss := magicL) s4 (by omega) rfl (by omega) (by omega) (by decide) fun h5 f5 s5 => ⟨_, rfl, ?_⟩
  have F5 := fr F4 f5
  have e5 : putU (zeros 512) (0 : Int).toNat magicL = magicL ++ zeros 504 := putU_app [] (zeros 8) (zeros 504) magicL rfl
  rw [e5] at s5
  rw [wrap_u64 (by omega) (by omega)]
  refine Put_spec (n := 2) (at_ := 8) (v := nl) (g.no F5) s5 (by omega) (by omega) (by omega) (by omega) (by show nl < 65536; omega) fun h6 f6 s6 => ⟨_, rfl, ?_⟩
  have F6 := fr F5 f6
  have e6 : putU (magicL ++ zeros 504) (8 : Int).toNat (leB (2 : Int).toNat nl) = magicL ++ leB 2 nl ++ zeros 502 := by
    have := putU_app magicL (zeros 2) (zeros 502) (leB 2 nl) (by rw [leB_length, zeros_length])
    rw [List.append_assoc, ← zeros_add] at this
    exact this
  rw [e6] at s6
  have P16l : (magicL ++ leB 2 nl ++ zeros 6).length = 16 := by simp only [List.length_append, leB_length, zeros_length]; rfl
  refine ⟨fun k hh => 0 ≤ k ∧ k ≤ nl ∧ Fr No h hh ∧ Sl hh 1 (some ⟨h2'.size, 0, none⟩) 512 512 ((magicL ++ leB 2 nl ++ zeros 6 ++ flat4 (ns.take k.toNat) ++ zeros (496 - 4 * k.toNat)).map bv) (fun b => b = h2'.size), fun k _ => ((nl : Int) - k).toNat,
    ⟨by omega, by omega, F6, ?_⟩, ?_⟩
  · have e : magicL ++ leB 2 nl ++ zeros 502 = magicL ++ leB 2 nl ++ zeros 6 ++ flat4 (ns.take (0 : Int).toNat) ++ zeros (496 - 4 * (0 : Int).toNat) := by
      show _ = magicL ++ leB 2 nl ++ zeros 6 ++ [] ++ zeros 496
      rw [List.append_nil, List.append_assoc _ (zeros 6), ← zeros_add]
    rw [← e]; exact s6
  rintro i h7 ⟨i0, i1, f7, s7⟩
  refine cd (fun hi => ?_) fun hi => ?_
  · have hi' : i.toNat < ns.length := by omega
    obtain ⟨p, rfl, cp⟩ := ints_get (SlCells.fr f7 B fun _ _ x => x) hi'
    have hx := hmem _ (List.getElem_mem hi')
    refine ⟨⟨i0, hi⟩, os ⟨_, cp, ?_⟩⟩
    rw [wrap_i64 (n := 4 * i) (by omega) (by omega), wrap_i64 (n := 16 + 4 * i) (by omega) (by omega), wrap_u64 (by omega) (by omega), wrap_i64 (n := i + 1) (by omega) (by omega)]
    have ev : ns[i.toNat] = ((ns[i.toNat].toNat : Nat) : Int) := by omega
    rw [ev]
    refine Put_spec (n := 4) (at_ := 16 + 4 * i) (v := ns[i.toNat].toNat) (g.no f7) s7 (by omega) (by omega) (by omega) (by omega) (by show ns[i.toNat].toNat < 4294967296; omega) fun h8 f8 s8 => ⟨_, rfl, ?_⟩
    refine ⟨⟨by omega, by omega, fr f7 f8, ?_⟩, falls hi⟩
    have hxl : (magicL ++ leB 2 nl ++ zeros 6 ++ flat4 (ns.take i.toNat)).length = (16 + 4 * i).toNat := by
      rw [List.length_append, P16l, flat4_length, List.length_take]; omega
    have hz : zeros (496 - 4 * i.toNat) = zeros 4 ++ zeros (496 - 4 * (i.toNat + 1)) := by rw [← zeros_add]; congr 1; omega
    have ee : putU (magicL ++ leB 2 nl ++ zeros 6 ++ flat4 (ns.take i.toNat) ++ zeros (496 - 4 * i.toNat)) (16 + 4 * i).toNat (leB (4 : Int).toNat ns[i.toNat].toNat) =
        magicL ++ leB 2 nl ++ zeros 6 ++ flat4 (ns.take (i + 1).toNat) ++ zeros (496 - 4 * (i + 1).toNat) := by
      rw [hz, ← hxl, ← List.append_assoc]
      have := putU_app (magicL ++ leB 2 nl ++ zeros 6 ++ flat4 (ns.take i.toNat)) (zeros 4) (zeros (496 - 4 * (i.toNat + 1))) (leB 4 ns[i.toNat].toNat) (by rw [leB_length, zeros_length])
      rw [show (4 : Int).toNat = 4 from rfl, this, show (i + 1).toNat = i.toNat + 1 by omega, List.take_succ_eq_append_getElem hi']
      have : flat4 (ns.take i.toNat ++ [ns[i.toNat]]) = flat4 (ns.take i.toNat) ++ leB 4 ns[i.toNat].toNat := by simp only [flat4, List.flatMap_append, List.flatMap_cons, List.flatMap_nil, List.append_nil]
      rw [this]
      simp only [List.append_assoc]
    rw [ee] at s8
    exact s8
  · have e : i.toNat = nl := by omega
    rw [e, List.take_of_length_le (by omega)] at s7
    have e0 : magicL ++ leB 2 nl ++ zeros 6 ++ flat4 ns ++ zeros (496 - 4 * nl) = laidM ns 0 := by
      rw [laidM, leB_zero, hn, show zeros 6 = zeros 2 ++ zeros 4 from zeros_add 2 4]
      simp only [List.append_assoc]
    rw [e0] at s7
    refine sumOf_spec (g.no f7) s7.str rfl (D.fr f7) hdl hbl fun h9 f9 => ⟨_, rfl, ?_⟩
    have us := sum_range (laidM ns 0) ds
    obtain ⟨u0, u1⟩ := us
    rw [wrap_u64 u0 (by omega)]
    have ev : sumM (laidM ns 0) ds = (((sumM (laidM ns 0) ds).toNat : Nat) : Int) := by omega
    rw [ev]
    refine Put_spec (n := 4) (at_ := 12) (v := (sumM (laidM ns 0) ds).toNat) (g.no (f7.no f9)) (s7.fr f9 fun _ _ _ x => x) (by omega) (by omega) (by omega) (by omega) (by show (sumM (laidM ns 0) ds).toNat < 4294967296; omega) fun h10 f10 s10 => ⟨_, rfl, ?_⟩
    have e1 : putU (laidM ns 0) (12 : Int).toNat (leB (4 : Int).toNat (sumM (laidM ns 0) ds).toNat) = laidM ns (sumM (laidM ns 0) ds).toNat := laid_put ns 0 _
    rw [e1] at s10
    exact k _ h10 (fr (f7.no f9) f10) hs2 s10
end Go.Proofs.YtpleolmalbdpnaaDoor.Hd
/-
  PACKAGE head: Nums and Good; and plainly: what Nums tells of a header.
-/
namespace Go.Proofs.YtpleolmalbdpnaaDoor.Hd
open Go Go.Proofs Go.Proofs.YtpleolmalbdpnaaDoor.Wx Go.Proofs.YtpleolmalbdpnaaDoor.Hp Go.Proofs.YtpleolmalbdpnaaDoor.W Go.Proofs.YtpleolmalbdpnaaDoor.Su Go.Proofs.YtpleolmalbdpnaaDoor.Re

def getAt (hd : List UInt8) (o n : Nat) : Nat := leN ((hd.drop o).take n)
theorem getAt_lt (hd : List UInt8) (o n : Nat) : getAt hd o n < 256 ^ n := by
  refine Nat.lt_of_lt_of_le (leN_lt _) (Nat.pow_le_pow_right (by decide) ?_)
  rw [List.length_take]; exact Nat.min_le_left _ _
def numsL (hd : List UInt8) (k : Nat) : List Int := (List.range k).map fun i => (getAt hd (16 + 4 * i) 4 : Int)
theorem numsL_length (hd : List UInt8) (k : Nat) : (numsL hd k).length = k := by rw [numsL, List.length_map, List.length_range]
theorem numsL_succ (hd : List UInt8) (k : Nat) : numsL hd (k + 1) = numsL hd k ++ [(getAt hd (16 + 4 * k) 4 : Int)] := by rw [numsL, List.range_succ, List.map_append]; rfl
def numsM (hd : List UInt8) (n : Int) : List Int × Int :=
  if hd.length ≠ 512 then ([], 32)
  else if allZero hd = true then ([], 0)
  else if hd.take 8 ≠ magicL then ([], 41)
  else if 96 < getAt hd 8 2 then ([], 41)
  else if allZero ((hd.drop 10).take 2) = false then ([], 41)
  else if allZero ((hd.drop (16 + 4 * getAt hd 8 2)).take (512 - (16 + 4 * getAt hd 8 2))) = false then ([], 41)
  else if mayM (numsL hd (getAt hd 8 2)) n = false then ([], 41)
  else (numsL hd (getAt hd 8 2), 0)
theorem Nums_spec {a : Option Addr} {l c : Nat} {hd : List UInt8} {n : Int} {h : Heap} {K : Value → Heap → Prop} (g : Glo h) (B : StrAt h a l hd) (hlc : l ≤ c) (hl : l ≤ 140737488355328)
    (hK : ∀ a' l' c' h', Fr No h h' → l' = (numsM hd n).1.length → Sl h' 1 a' l' c' (ints (numsM hd n).1) (From h.size) → K (.tuple #[.slice a' l' c', .int .i64 (numsM hd n).2]) h') : C.head_Nums a l c n h K := by
  have hb := B.1
  unfold numsM at hK
  have nil : ∀ {e : Int} {h'}, Fr No h h' → (∀ a' l' c' h', Fr No h h' → l' = ([] : List Int).length → Sl h' 1 a' l' c' (ints []) (From h.size) → K (.tuple #[.slice a' l' c', .int .i64 e]) h') → K (.tuple #[.slice none 0 0, .int .i64 e]) h' := fun f k => k none 0 0 _ f rfl (Sl.nil _ _ _)
  refine head_Nums.ok (cn (fun x => ?_) fun x => ?_)
  · rw [if_pos (by omega)] at hK; exact nil (Fr.refl _ _) hK
  have hl5 : hd.length = 512 := by omega
  rw [if_neg (fun y => y hl5)] at hK
  refine Zero_spec (at_ := 0) (n := 512) B hlc hl (by omega) (by omega) (by omega) ⟨_, _, rfl, ?_⟩
  have e0 : (hd.drop (0 : Int).toNat).take (512 : Int).toNat = hd := List.take_of_length_le (by show hd.length ≤ 512; omega)
  rw [e0]
  refine cs (fun hz => ?_) fun hz => ?_
  · rw [if_pos hz] at hK; exact nil (Fr.refl _ _) hK
  rw [if_neg (by rw [hz]; exact Bool.false_ne_true)] at hK
  refine Get_spec (n := 2) (at_ := 8) g B hl (by omega) (by omega) (by omega) ⟨_, _, rfl, ⟨by omega, by omega⟩, hd.take 8, StrAt.take B (by show 8 ≤ l; omega), ?_⟩
  rw [toList_mkStr, toList_mkStr]
  refine cnot (cs (fun hm => ?_) fun hm => ?_)
  rotate_left
  · have : hd.take 8 ≠ magicL := by rw [beq_eq_false_iff_ne] at hm; exact hm
    rw [if_pos this] at hK; exact nil (Fr.refl _ _) hK
  have hm' : hd.take 8 = magicL := by rw [beq_iff_eq] at hm; exact hm
  rw [if_neg (fun y => y hm')] at hK
  have eg : leN ((hd.drop (8 : Int).toNat).take (2 : Int).toNat) = getAt hd 8 2 := rfl
  rw [eg]
  refine cd (fun hbig => ?_) fun hbig => ?_
  · rw [if_pos (by omega)] at hK; exact nil (Fr.refl _ _) hK
  rw [if_neg (by omega)] at hK
  generalize hk : getAt hd 8 2 = k at hK hbig ⊢
  have hk96 : k ≤ 96 := by omega
  unfold head_Nums.k1
  rw [wrap_i64 (n := (k : Int)) (by omega) (by omega)]
  refine ⟨fun a' l' c' i hh => 0 ≤ i ∧ i ≤ k ∧ l' = i.toNat ∧ Fr No h hh ∧ Sl hh 1 a' l' c' (ints (numsL hd i.toNat)) (From h.size), fun _ _ _ i _ => ((k : Int) - i).toNat, ⟨by omega, by omega, rfl, Fr.refl _ _, Sl.nil _ _ _⟩, ?_⟩
  rintro a' l' c' i h4 ⟨i0, i1, rfl, f4, s4⟩
  have hs4 := f4.size
  refine cd (fun hi => ?_) fun hi => ?_
  · rw [wrap_i64 (n := 4 * i) (by omega) (by omega), wrap_i64 (n := 16 + 4 * i) (by omega) (by omega)]
    refine Get_spec (n := 4) (at_ := 16 + 4 * i) (g.no f4) (StrAt.fr f4 B fun _ _ x => x) hl (by omega) (by omega) (by omega) ⟨_, _, rfl, ?_⟩
    have e4 : leN ((hd.drop (16 + 4 * i).toNat).take (4 : Int).toNat) = getAt hd (16 + 4 * i.toNat) 4 := by rw [show (16 + 4 * i).toNat = 16 + 4 * i.toNat by omega]; rfl
    have lt4 : getAt hd (16 + 4 * i.toNat) 4 < 4294967296 := getAt_lt _ _ _
    rw [e4, wrap_i64 (n := (getAt hd (16 + 4 * i.toNat) 4 : Int)) (by omega) (by omega), wrap_i64 (n := i + 1) (by omega) (by omega)]
    refine New.intro fun h6 n6 => ⟨[.int .i64 (getAt hd (16 + 4 * i.toNat) 4 : Int)], rfl, cellsAll n6.rd, by intro v hv; rw [List.mem_singleton.mp hv]; rfl, ?_⟩
    have hs6 := n6.size
    refine append_own (s4.fr n6.fr fun _ _ _ x => x) rfl rfl (by show (i.toNat + 1) * 8 ≤ _; omega) (by omega) fun a7 c7 h7 f7 s7 => ?_
    refine ⟨⟨by omega, by omega, by omega, (f4.new n6).trans f7 (fun b hb e => by have : h.size ≤ b := e; omega), ?_⟩, falls hi⟩
    rw [show (i + 1).toNat = i.toNat + 1 by omega, numsL_succ, ints, List.map_append]
    exact s7.mono fun b hb => by rcases hb with hb | hb; exact hb; show h.size ≤ b; omega
  · have ei : i.toNat = k := by omega
    rw [ei] at s4 ⊢
    have B4 := StrAt.fr f4 B fun _ _ x => x
    refine Zero_spec (at_ := 10) (n := 2) B4 hlc hl (by omega) (by omega) (by omega) ⟨_, _, rfl, ?_⟩
    rw [wrap_i64 (n := 4 * (k : Int)) (by omega) (by omega), wrap_i64 (n := 16 + 4 * (k : Int)) (by omega) (by omega), wrap_i64 (n := 512 - (16 + 4 * (k : Int))) (by omega) (by omega)]
    refine Zero_spec B4 hlc hl (by omega) (by omega) (by omega) ⟨_, _, rfl, ?_⟩
    have z1 : allZero ((hd.drop (10 : Int).toNat).take (2 : Int).toNat) = allZero ((hd.drop 10).take 2) := rfl
    have z2 : allZero ((hd.drop (16 + 4 * (k : Int)).toNat).take (512 - (16 + 4 * (k : Int))).toNat) = allZero ((hd.drop (16 + 4 * k)).take (512 - (16 + 4 * k))) := by
      rw [show (16 + 4 * (k : Int)).toNat = 16 + 4 * k by omega, show (512 - (16 + 4 * (k : Int))).toNat = 512 - (16 + 4 * k) by omega]
    rw [z1, z2]
    refine cnot (cs (fun hy1 => ?_) fun hy1 => ?_)
    rotate_left
    · rw [if_pos hy1] at hK; exact nil f4 hK
    rw [if_neg (by rw [hy1]; exact fun y => by cases y)] at hK
    refine cnot (cs (fun hy2 => ?_) fun hy2 => ?_)
    rotate_left
    · rw [if_pos hy2] at hK; exact nil f4 hK
    rw [if_neg (by rw [hy2]; exact fun y => by cases y)] at hK
    refine may_spec s4.cells (numsL_length _ _) (by omega) fun h10 f10 => ⟨_, rfl, ?_⟩
    refine cnot (cs (fun hy3 => ?_) fun hy3 => ?_)
    rotate_left
    · rw [if_pos hy3] at hK; exact nil (f4.no f10) hK
    rw [if_neg (by rw [hy3]; exact fun y => by cases y)] at hK
    exact hK a' k c' h10 (f4.no f10) (numsL_length _ _).symm (s4.fr f10 fun _ _ _ x => x)
def goodM (hd : List UInt8) (n : Int) (ds : List (List UInt8)) : Bool :=
  (numsM hd n).2 == 0 && (!(numsM hd n).1.isEmpty && (blM ds (numsM hd n).1.length && ((getAt hd 12 4 : Int) == sumM hd ds)))
theorem numsM_len {hd : List UInt8} {n : Int} (h : (numsM hd n).2 = 0) : hd.length = 512 := by
  unfold numsM at h
  split at h
  · exact absurd h (by decide)
  · rename_i x; omega
theorem Good_spec {a da : Option Addr} {l c dl dc : Nat} {hd : List UInt8} {ss : List Sc} {ds : List (List UInt8)} {n : Int} {h : Heap} {K : Value → Heap → Prop} (g : Glo h) (B : StrAt h a l hd) (hlc : l ≤ c) (hl : l ≤ 140737488355328) (D : Dat h da dl ss ds) (hdl : dl ≤ 140737488355328)
    (hK : ∀ h', Fr No h h' → K (.bool (goodM hd n ds)) h') : C.head_Good a l c n da dl dc h K := by
  have hb := B.1
  refine head_Good.ok (Nums_spec (n := n) g B hlc hl fun a' l' c' h2 f2 el s2 => ⟨_, _, _, _, rfl, ?_⟩)
  unfold goodM at hK
  refine cn (fun x => ?_) fun x => ?_
  · rw [show ((numsM hd n).2 == 0) = false from beq_eq_false_iff_ne.mpr x] at hK; exact hK h2 f2
  rw [show ((numsM hd n).2 == 0) = true from beq_iff_eq.mpr x] at hK
  have hl5 := numsM_len x
  refine ce (fun z => ?_) fun z => ?_
  · have : (numsM hd n).1.isEmpty = true := List.isEmpty_iff.mpr (List.eq_nil_of_length_eq_zero (by omega))
    rw [this] at hK; exact hK h2 f2
  have : (numsM hd n).1.isEmpty = false := by
    cases hq : (numsM hd n).1 with
    | nil => rw [hq] at el; simp at el; omega
    | cons _ _ => rfl
  rw [this, ← el] at hK
  refine areBlocks_spec (D.fr f2) hdl ⟨_, rfl, cnot (cs (fun hbl => ?_) fun hbl => ?_)⟩
  rotate_left
  · rw [hbl] at hK; exact hK h2 f2
  rw [hbl] at hK
  have hds : ∀ d ∈ ds, d.length ≤ 1099511627776 := fun d hd => by
    rw [blM, Bool.and_eq_true] at hbl
    have := List.all_eq_true.mp hbl.1 d hd
    rw [beq_iff_eq] at this; omega
  have B2 := StrAt.fr f2 B fun _ _ x => x
  refine Get_spec (n := 4) (at_ := 12) (g.no f2) B2 hl (by omega) (by omega) (by omega) ⟨_, _, rfl, ?_⟩
  refine sumOf_spec (g.no f2) B2 (by omega) (D.fr f2) hdl hds fun h6 f6 => ⟨_, rfl, ?_⟩
  have lt : getAt hd 12 4 < 4294967296 := getAt_lt _ _ _
  have eg : leN ((hd.drop (12 : Int).toNat).take (4 : Int).toNat) = getAt hd 12 4 := rfl
  rw [eg, wrap_u32 ⟨by omega, by omega⟩]
  exact hK h6 (f2.no f6)

/-! Plainly. -/
theorem leB_succ (n v : Nat) : leB (n + 1) v = UInt8.ofNat v :: leB n (v / 256) := by
  rw [leB, List.range_succ_eq_map, List.map_cons, List.map_map]
  congr 1
  · rw [Nat.pow_zero, Nat.div_one]
  · rw [leB]
    apply List.map_congr_left
    intro k _
    show UInt8.ofNat (v / 256 ^ (k + 1)) = UInt8.ofNat (v / 256 / 256 ^ k)
    rw [Nat.pow_succ, Nat.mul_comm, Nat.div_div_eq_div_mul]
theorem leB_leN : ∀ (bs : List UInt8), leB bs.length (leN bs) = bs := by
  intro bs
  induction bs with
  | nil => rfl
  | cons b r ih =>
    have hb : b.toNat < 256 := b.toNat_lt
    rw [List.length_cons, leB_succ, leN, show (b.toNat + 256 * leN r) / 256 = leN r by omega, ih]
    congr 1
    apply UInt8.toNat_inj.mp
    rw [UInt8.toNat_ofNat']; omega
theorem leN_leB : ∀ (n v : Nat), v < 256 ^ n → leN (leB n v) = v := by
  intro n
  induction n with
  | zero =>
    intro v h
    have e : v = 0 := by simpa using h
    rw [e]; rfl
  | succ n ih =>
    intro v h
    rw [leB_succ, leN, ih (v / 256) (by rw [Nat.pow_succ] at h; omega), UInt8.toNat_ofNat']
    omega
theorem allZero_zeros {bs : List UInt8} (h : allZero bs = true) : bs = zeros bs.length := by
  induction bs with
  | nil => rfl
  | cons b r ih =>
    rw [allZero, List.all_cons, Bool.and_eq_true] at h
    have hb : b = 0 := by simpa using h.1
    have := ih h.2
    rw [List.length_cons, zeros, List.replicate_succ, hb]
    exact congrArg _ this
theorem zeros_allZero (n : Nat) : allZero (zeros n) = true := by
  rw [allZero, List.all_eq_true]; intro x hx; rw [List.eq_of_mem_replicate hx]; rfl
theorem drop_split (xs : List UInt8) (i n : Nat) : xs.drop i = (xs.drop i).take n ++ xs.drop (i + n) := by
  have := List.take_append_drop n (xs.drop i)
  rw [List.drop_drop] at this
  exact this.symm
theorem flat4_nums (hd : List UInt8) : ∀ k, 16 + 4 * k ≤ hd.length → flat4 (numsL hd k) = (hd.drop 16).take (4 * k) := by
  intro k
  induction k with
  | zero => intro _; rfl
  | succ k ih =>
    intro hk
    have e1 : flat4 (numsL hd (k + 1)) = flat4 (numsL hd k) ++ leB 4 (getAt hd (16 + 4 * k) 4) := by
      rw [numsL_succ]; simp only [flat4, List.flatMap_append, List.flatMap_cons, List.flatMap_nil, List.append_nil, Int.toNat_natCast]
    have e2 : leB 4 (getAt hd (16 + 4 * k) 4) = (hd.drop (16 + 4 * k)).take 4 := by
      have := leB_leN ((hd.drop (16 + 4 * k)).take 4)
      rw [show ((hd.drop (16 + 4 * k)).take 4).length = 4 by rw [List.length_take, List.length_drop]; omega] at this
      exact this
    rw [e1, e2, ih (by omega), show 4 * (k + 1) = 4 * k + 4 by omega, List.take_add, List.drop_drop]
/-- what is told is laid -/
theorem nums_laid {hd : List UInt8} {n : Int} (h : (numsM hd n).2 = 0) (hne : (numsM hd n).1 ≠ []) :
    hd = laidM (numsM hd n).1 (getAt hd 12 4) ∧ mayM (numsM hd n).1 n = true := by
  have hl := numsM_len h
  unfold numsM at h hne ⊢
  rw [if_neg (fun x => x hl)] at h hne ⊢
  split at h
  · rename_i z; rw [if_pos z] at hne; exact absurd rfl hne
  · rename_i z; rw [if_neg z] at hne ⊢
    split at h
    · exact absurd h (by decide)
    · rename_i z1; rw [if_neg z1] at hne ⊢
      split at h
      · exact absurd h (by decide)
      · rename_i z2; rw [if_neg z2] at hne ⊢
        split at h
        · exact absurd h (by decide)
        · rename_i z3; rw [if_neg z3] at hne ⊢
          split at h
          · exact absurd h (by decide)
          · rename_i z4; rw [if_neg z4] at hne ⊢
            split at h
            · exact absurd h (by decide)
            · rename_i z5; rw [if_neg z5]
              refine ⟨?_, by cases hq : mayM (numsL hd (getAt hd 8 2)) n with | true => rfl | false => exact absurd hq z5⟩
              have hm : hd.take 8 = magicL := by
                rcases Classical.em (hd.take 8 = magicL) with h | h
                · exact h
                · exact absurd h z1
              generalize hk : getAt hd 8 2 = k at z2 z4 ⊢
              have hk96 : k ≤ 96 := by omega
              have b2 : leB 2 k = (hd.drop 8).take 2 := by
                have := leB_leN ((hd.drop 8).take 2)
                rw [show ((hd.drop 8).take 2).length = 2 by rw [List.length_take, List.length_drop]; omega] at this
                rw [← hk]; exact this
              have b10 : (hd.drop 10).take 2 = zeros 2 := by
                have : allZero ((hd.drop 10).take 2) = true := by cases hq : allZero ((hd.drop 10).take 2) with | true => rfl | false => exact absurd hq z3
                have := allZero_zeros this
                rw [show ((hd.drop 10).take 2).length = 2 by rw [List.length_take, List.length_drop]; omega] at this
                exact this
              have b12 : leB 4 (getAt hd 12 4) = (hd.drop 12).take 4 := by
                have := leB_leN ((hd.drop 12).take 4)
                rw [show ((hd.drop 12).take 4).length = 4 by rw [List.length_take, List.length_drop]; omega] at this
                exact this
              have b16 := flat4_nums hd k (by omega)
              have bz : hd.drop (16 + 4 * k) = zeros (496 - 4 * k) := by
                have : allZero ((hd.drop (16 + 4 * k)).take (512 - (16 + 4 * k))) = true := by cases hq : allZero ((hd.drop (16 + 4 * k)).take (512 - (16 + 4 * k))) with | true => rfl | false => exact absurd hq z4
                have := allZero_zeros this
                rw [List.take_of_length_le (by rw [List.length_drop]; omega), List.length_drop, hl] at this
                rw [this]; congr 1; omega
              rw [laidM, numsL_length, b2, ← b10, b12, b16, ← bz, ← hm]
              have e : hd = hd.take 8 ++ ((hd.drop 8).take 2 ++ ((hd.drop 10).take 2 ++ ((hd.drop 12).take 4 ++ ((hd.drop 16).take (4 * k) ++ hd.drop (16 + 4 * k))))) := by
                rw [← drop_split hd 16 (4 * k), ← drop_split hd 12 4, ← drop_split hd 10 2, ← drop_split hd 8 2, List.take_append_drop]
              simp only [List.append_assoc]
              exact e
theorem sum_laid (ns : List Int) (s t : Nat) (ds : List (List UInt8)) : sumM (laidM ns s) ds = sumM (laidM ns t) ds := by rw [sumM, sumM, laid_put, laid_put]
/-- a good header is what Make makes -/
theorem good_laid {hd : List UInt8} {n : Int} {ds : List (List UInt8)} (h : goodM hd n ds = true) :
    (numsM hd n).2 = 0 ∧ (numsM hd n).1 ≠ [] ∧ mayM (numsM hd n).1 n = true ∧ blM ds (numsM hd n).1.length = true ∧ hd = laidM (numsM hd n).1 (sumM (laidM (numsM hd n).1 0) ds).toNat := by
  rw [goodM, Bool.and_eq_true, Bool.and_eq_true, Bool.and_eq_true] at h
  obtain ⟨h1, h2, h3, h4⟩ := h
  have h1 := beq_iff_eq.mp h1
  have h4 := beq_iff_eq.mp h4
  have hne : (numsM hd n).1 ≠ [] := fun e => by rw [e] at h2; cases h2
  obtain ⟨e, m⟩ := nums_laid h1 hne
  refine ⟨h1, hne, m, h3, ?_⟩
  have es : sumM hd ds = sumM (laidM (numsM hd n).1 0) ds := by
    have := sum_laid (numsM hd n).1 (getAt hd 12 4) 0 ds
    rw [← e] at this; exact this
  rw [← es, ← h4, Int.toNat_natCast]; exact e
/-- what is laid is told -/
theorem laid_split (ns : List Int) (s : Nat) : laidM ns s = magicL ++ (leB 2 ns.length ++ (zeros 2 ++ (leB 4 s ++ (flat4 ns ++ zeros (496 - 4 * ns.length))))) := by simp only [laidM, List.append_assoc]
theorem drop_app {xs ys : List UInt8} {n : Nat} (h : xs.length = n) : (xs ++ ys).drop n = ys := by rw [← h, List.drop_left]
theorem take_app {xs ys : List UInt8} {n : Nat} (h : xs.length = n) : (xs ++ ys).take n = xs := by rw [← h, List.take_left]
theorem laid_drops (ns : List Int) (s : Nat) : (laidM ns s).drop 8 = leB 2 ns.length ++ (zeros 2 ++ (leB 4 s ++ (flat4 ns ++ zeros (496 - 4 * ns.length)))) ∧ (laidM ns s).drop 10 = zeros 2 ++ (leB 4 s ++ (flat4 ns ++ zeros (496 - 4 * ns.length))) ∧
    (laidM ns s).drop 12 = leB 4 s ++ (flat4 ns ++ zeros (496 - 4 * ns.length)) ∧ (laidM ns s).drop 16 = flat4 ns ++ zeros (496 - 4 * ns.length) := by
  have d8 : (laidM ns s).drop 8 = leB 2 ns.length ++ (zeros 2 ++ (leB 4 s ++ (flat4 ns ++ zeros (496 - 4 * ns.length)))) := by rw [laid_split]; exact drop_app rfl
  have d10 : (laidM ns s).drop 10 = zeros 2 ++ (leB 4 s ++ (flat4 ns ++ zeros (496 - 4 * ns.length))) := by
    rw [show 10 = 8 + 2 from rfl, ← List.drop_drop, d8]; exact drop_app (leB_length _ _)
  have d12 : (laidM ns s).drop 12 = leB 4 s ++ (flat4 ns ++ zeros (496 - 4 * ns.length)) := by
    rw [show 12 = 10 + 2 from rfl, ← List.drop_drop, d10]; exact drop_app (zeros_length _)
  refine ⟨d8, d10, d12, ?_⟩
  rw [show 16 = 12 + 4 from rfl, ← List.drop_drop, d12]; exact drop_app (leB_length _ _)
theorem flat4_part : ∀ (ns : List Int) (i : Nat) (hi : i < ns.length) (zs : List UInt8), ((flat4 ns ++ zs).drop (4 * i)).take 4 = leB 4 ns[i].toNat := by
  intro ns
  induction ns with
  | nil => intro i hi; exact absurd hi (Nat.not_lt_zero _)
  | cons n r ih =>
    intro i hi zs
    have e : flat4 (n :: r) = leB 4 n.toNat ++ flat4 r := rfl
    rw [e, List.append_assoc]
    cases i with
    | zero => rw [Nat.mul_zero, List.drop_zero]; exact take_app (leB_length _ _)
    | succ i =>
      rw [show 4 * (i + 1) = 4 + 4 * i by omega, ← List.drop_drop, drop_app (leB_length _ _)]
      exact ih i (by simpa using hi) zs
theorem laid_nums {ns : List Int} {s : Nat} {n : Int} (h : mayM ns n = true) (hb : ∀ x ∈ ns, x < 4294967296) : numsM (laidM ns s) n = (ns, 0) := by
  obtain ⟨hm, h1, h2⟩ := mayM_mem h
  obtain ⟨d8, d10, d12, d16⟩ := laid_drops ns s
  have hl := laid_length ns s (by omega)
  have hk : getAt (laidM ns s) 8 2 = ns.length := by
    rw [getAt, d8, take_app (leB_length _ _)]; exact leN_leB 2 _ (by show ns.length < 65536; omega)
  have hN : numsL (laidM ns s) ns.length = ns := by
    apply List.ext_getElem
    · rw [numsL_length]
    · intro i g1 g2
      simp only [numsL, List.getElem_map, List.getElem_range]
      rw [getAt, ← List.drop_drop, d16, flat4_part ns i g2, leN_leB 4 _ (by have := hb _ (List.getElem_mem g2); show ns[i].toNat < 4294967296; omega)]
      have := hm _ (List.getElem_mem g2)
      omega
  unfold numsM
  rw [if_neg (fun x => x hl), if_neg (by rw [laid_split]; exact fun x => by rw [allZero, magicL, List.cons_append, List.all_cons] at x; cases x), if_neg (fun x => x (by rw [laid_split]; exact take_app rfl)), hk, if_neg (by omega),
    if_neg (by rw [d10, take_app (zeros_length _), zeros_allZero]; exact fun x => by cases x),
    if_neg (by rw [← List.drop_drop, d16, drop_app (flat4_length ns), List.take_of_length_le (by rw [zeros_length]; omega), zeros_allZero]; exact fun x => by cases x), hN, if_neg (by rw [h]; exact fun x => by cases x)]
theorem laid_get (ns : List Int) {s : Nat} (h : s < 4294967296) : getAt (laidM ns s) 12 4 = s := by
  obtain ⟨d8, d10, d12, d16⟩ := laid_drops ns s
  rw [getAt, d12, take_app (leB_length _ _)]; exact leN_leB 4 _ h
/-- a laid header is good with the blocks of its sum, and with no others -/
theorem laid_good {ns : List Int} {s : Nat} {n : Int} {ds : List (List UInt8)} (h : mayM ns n = true) (hb : ∀ x ∈ ns, x < 4294967296) (hs : s < 4294967296) :
    goodM (laidM ns s) n ds = (blM ds ns.length && ((s : Int) == sumM (laidM ns 0) ds)) := by
  rw [goodM, laid_nums h hb, laid_get ns hs, sum_laid ns s 0]
  have : ns.isEmpty = false := by
    obtain ⟨_, h1, _⟩ := mayM_mem h
    cases ns with
    | nil => simp at h1
    | cons _ _ => rfl
  simp [this]
end Go.Proofs.YtpleolmalbdpnaaDoor.Hd
