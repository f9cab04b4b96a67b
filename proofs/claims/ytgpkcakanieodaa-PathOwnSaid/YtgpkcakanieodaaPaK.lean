/-
  PATHS: PathOwn, its state and its loops.
-/
import Derived.Test.YtgpkcakanieodaaPaJ
import Derived.Test.YtgpkcakanieodaaRwA
namespace Go.Proofs.Ytgpkcakanieodaa.Pa
open Go Go.Proofs Go.Proofs.Ytgpkcakanieodaa.Wx Go.Proofs.Ytgpkcakanieodaa.Hp Go.Proofs.Ytgpkcakanieodaa.W Go.Proofs.Ytgpkcakanieodaa.Sk Go.Proofs.Ytgpkcakanieodaa.Ch Go.Proofs.Ytgpkcakanieodaa.Rg Go.Proofs.Ytgpkcakanieodaa.Rz

/-- the three rows: the lists, the lists with more behind each, and copies of what the lists were -/
structure Rs where
  lA : Option Addr
  lC : Nat
  ls : List Sc
  ws : List (List Value)
  gA : Option Addr
  gC : Nat
  gs : List Sc
  gv : List (List Value)
  wA : Option Addr
  wC : Nat
  os : List Sc
  ov : List (List Value)
structure St (h0 hh : Heap) (col : Nat → Nat) (d : Rs) : Prop where
  fr : Fr No h0 hh
  low : ∀ b, b < h0.size → col b = 0
  l9 : d.ls.length ≤ 9
  g9 : d.gs.length ≤ 9
  o9 : d.os.length ≤ 9
  lists : Rw hh col 1 10 d.lA d.ls.length d.lC d.ls d.ws
  longs : Rw hh col 4 10 d.gA d.gs.length d.gC d.gs d.gv
  was : Rw hh col 3 30 d.wA d.os.length d.wC d.os d.ov
variable {h0 hh h' : Heap} {col col' : Nat → Nat} {d : Rs}
/-- blocks of colours that are not in use are written -/
theorem St.free {F : Nat → Prop} (s : St h0 hh col d) (f : Fr F hh h') (g : Ag hh.size col col') (hF : ∀ b, b < hh.size → F b → 30 + d.os.length ≤ col b) : St h0 h' col' d := by
  have hz := s.fr.size
  have l9 := s.l9
  have g9 := s.g9
  have k : ∀ b, b < hh.size → col b < 30 + d.os.length → ¬ F b := fun b hb hc hf => by have := hF b hb hf; omega
  exact ⟨s.fr.trans f fun b hb hf => by have := hF b (by omega) hf; rw [s.low b hb] at this; omega, fun b hb => (g b (by omega)).trans (s.low b hb), s.l9, s.g9, s.o9,
    s.lists.keep f g fun b hb hc => k b hb (by omega), s.longs.keep f g fun b hb hc => k b hb (by omega), s.was.keep f g fun b hb hc => k b hb (by omega)⟩
theorem St.quiet (s : St h0 hh col d) (f : Fr No hh h') : St h0 h' (upd col hh.size 0) d := s.free f (ag_upd _ _ _) fun _ _ x => x.elim
/-- list i is written -/
theorem St.write (s : St h0 hh col d) (hg : d.gs = []) {i : Nat} (hi : i < d.ls.length) {ys : List Value} (f : Fr (On col (10 + i)) hh h') (w : Sl h' 1 d.ls[i].a d.ls[i].l d.ls[i].c ys (On col (10 + i))) :
    St h0 h' col { d with ws := d.ws.set i ys } := by
  have g : Ag hh.size col col := Ag.refl _ _
  have l9 := s.l9
  refine ⟨s.fr.trans f fun b hb hF => ?_, s.low, s.l9, s.g9, s.o9, s.lists.write hi (Or.inl (by omega)) f w, s.longs.keep f g fun b _ h1 h2 => ?_, s.was.keep f g fun b _ h1 h2 => ?_⟩
  · have hF : col b = 10 + i := hF; rw [s.low b hb] at hF; omega
  · have h2 : col b = 10 + i := h2; rw [hg, List.length_nil] at h1; omega
  · have h2 : col b = 10 + i := h2; omega
/-- list i is appended to -/
theorem St.app (s : St h0 hh col d) {i : Nat} (hi : i < d.ls.length) (hv : i < d.ws.length) (hgi : d.gs.length ≤ i) (f : Fr (On col (10 + i)) hh h') (w : Sl h' 1 d.ls[i].a d.ls[i].l d.ls[i].c d.ws[i] (On col (10 + i))) :
    St h0 h' (upd col hh.size (10 + i)) d := by
  have g : Ag hh.size col (upd col hh.size (10 + i)) := ag_upd _ _ _
  have hz := s.fr.size
  have l9 := s.l9
  refine ⟨s.fr.trans f fun b hb hF => ?_, fun b hb => (g b (by omega)).trans (s.low b hb), s.l9, s.g9, s.o9, Rw.app s.lists hi hv (Or.inl (by omega)) f w, s.longs.keep f g fun b _ h1 h2 => ?_, s.was.keep f g fun b _ h1 h2 => ?_⟩
  · have hF : col b = 10 + i := hF; rw [s.low b hb] at hF; omega
  · have h2 : col b = 10 + i := h2; omega
  · have h2 : col b = 10 + i := h2; omega
/-- a longer list is put behind its row -/
theorem St.gpush (s : St h0 hh col d) (hl : d.gs.length < 9) {x : Sc} {xv : List Value} {a' : Option Addr} {c' : Nat} (f : Fr (On col 4) hh h') (r : Sl h' 1 a' (d.gs.length + 1) c' (d.gs.map Sc.v ++ [x.v]) (On (upd col hh.size 4) 4)) (it : Sl hh 1 x.a x.l x.c xv (On col (10 + d.gs.length))) :
    St h0 h' (upd col hh.size 4) { d with gA := a', gC := c', gs := d.gs ++ [x], gv := d.gv ++ [xv] } := by
  have g : Ag hh.size col (upd col hh.size 4) := ag_upd _ _ _
  have hz := s.fr.size
  have l9 := s.l9
  have lg := Rw.push (new := [x]) (nvs := [xv]) s.longs (Or.inl (by omega)) f r rfl fun i h1 h2 => by
    have : i = 0 := by have : i < 1 := h1; omega
    subst this
    exact it
  refine ⟨s.fr.trans f fun b hb hF => ?_, fun b hb => (g b (by omega)).trans (s.low b hb), s.l9, by show (d.gs ++ [x]).length ≤ 9; rw [List.length_append, List.length_singleton]; omega, s.o9, s.lists.keep f g fun b _ h1 h2 => ?_, ?_, s.was.keep f g fun b _ h1 h2 => ?_⟩
  · have hF : col b = 4 := hF; rw [s.low b hb] at hF; omega
  · have h2 : col b = 4 := h2; omega
  · show Rw h' _ 4 10 a' (d.gs ++ [x]).length c' _ _
    rw [List.length_append, List.length_singleton]; exact lg
  · have h2 : col b = 4 := h2; omega
theorem St.opush (s : St h0 hh col d) (hl : d.os.length < 9) {x : Sc} {xv : List Value} {a' : Option Addr} {c' : Nat} (f : Fr (On col 3) hh h') (r : Sl h' 1 a' (d.os.length + 1) c' (d.os.map Sc.v ++ [x.v]) (On (upd col hh.size 3) 3)) (it : Sl hh 1 x.a x.l x.c xv (On col (30 + d.os.length))) :
    St h0 h' (upd col hh.size 3) { d with wA := a', wC := c', os := d.os ++ [x], ov := d.ov ++ [xv] } := by
  have g : Ag hh.size col (upd col hh.size 3) := ag_upd _ _ _
  have hz := s.fr.size
  have l9 := s.l9
  have lg := Rw.push (new := [x]) (nvs := [xv]) s.was (Or.inl (by omega)) f r rfl fun i h1 h2 => by
    have : i = 0 := by have : i < 1 := h1; omega
    subst this
    exact it
  refine ⟨s.fr.trans f fun b hb hF => ?_, fun b hb => (g b (by omega)).trans (s.low b hb), s.l9, s.g9, by show (d.os ++ [x]).length ≤ 9; rw [List.length_append, List.length_singleton]; omega, s.lists.keep f g fun b _ h1 h2 => ?_, s.longs.keep f g fun b _ h1 h2 => ?_, ?_⟩
  · have hF : col b = 3 := hF; rw [s.low b hb] at hF; omega
  · have h2 : col b = 3 := h2; omega
  · have h2 : col b = 3 := h2; omega
  · show Rw h' _ 3 30 a' (d.os ++ [x]).length c' _ _
    rw [List.length_append, List.length_singleton]; exact lg
/-- lists are put behind their row -/
theorem St.lpush (s : St h0 hh col d) (hg : d.gs = []) (ho : d.os = []) {xs : List Sc} {xv : List (List Value)} (hl : d.ls.length + xs.length ≤ 9) {a' : Option Addr} {c' : Nat} (f : Fr (On col 1) hh h') (r : Sl h' 1 a' (d.ls.length + xs.length) c' (d.ls.map Sc.v ++ xs.map Sc.v) (On (upd col hh.size 1) 1)) (hn : xs.length = xv.length)
    (it : ∀ i (h1 : i < xs.length) (h2 : i < xv.length), Sl hh 1 xs[i].a xs[i].l xs[i].c xv[i] (On col (10 + d.ls.length + i))) :
    St h0 h' (upd col hh.size 1) { d with lA := a', lC := c', ls := d.ls ++ xs, ws := d.ws ++ xv } := by
  have g : Ag hh.size col (upd col hh.size 1) := ag_upd _ _ _
  have hz := s.fr.size
  have lg := Rw.push (new := xs) (nvs := xv) s.lists (Or.inl (by omega)) f r hn it
  refine ⟨s.fr.trans f fun b hb hF => ?_, fun b hb => (g b (by omega)).trans (s.low b hb), by show (d.ls ++ xs).length ≤ 9; rw [List.length_append]; omega, s.g9, s.o9, ?_, s.longs.keep f g fun b _ h1 h2 => ?_, s.was.keep f g fun b _ h1 h2 => ?_⟩
  · have hF : col b = 1 := hF; rw [s.low b hb] at hF; omega
  · show Rw h' _ 1 10 a' (d.ls ++ xs).length c' _ _
    rw [List.length_append]; exact lg
  · have h2 : col b = 1 := h2; omega
  · have h2 : col b = 1 := h2; omega
/-- what was answered anew, seen as of one colour -/
theorem Ls.on {h0 h h' : Heap} {ps : List Txt} {a : Option Addr} {l c k : Nat} {col : Nat → Nat} (L : Ls h0 h ps a l c) (f : Fr No h h') (hc : ∀ y, h0.size ≤ y → y < h.size → col y = k) : Sl h' 1 a l c (strs ps) (On col k) := by
  have s := L.2
  have s' := s.fr f fun _ _ _ x => x
  obtain ⟨y1, y2⟩ := s'
  refine ⟨y1, ?_⟩
  cases a with
  | none => exact y2
  | some pp => obtain ⟨u1, u2, u3, u4⟩ := y2; exact ⟨u1, hc _ u2 s.lt, u3, u4⟩
def items3 (x : Txt) : List (List Txt) := [(parseA x true).1, (parseA x false).1, (makeA x).1]
/-- a mark -/
def markT (i : Nat) : Txt := [47, 109, 97, 114, 107, 32, UInt8.ofNat (97 + i)]
def markV (i : Nat) : Value := .string (mkStr (markT i))
theorem mark_spec {i : Int} {h : Heap} {K : Value → Heap → Prop} (h0 : 0 ≤ i) (h1 : i ≤ 100) (hK : ∀ h', Fr No h h' → K (markV i.toNat) h') : C.bolelaw13_mark i h K := by
  refine bolelaw13_mark.ok (New.intro fun h2 n2 => ?_)
  have e : (.int .u8 (IntKind.wrap .u8 (IntKind.wrap .i64 (97 + i))) : Value) = bv (UInt8.ofNat (97 + i.toNat)) := by
    rw [wrap_i64 (by omega) (by omega), wrap_u8 (by omega) (by omega), bv, UInt8.toNat_ofNat']
    congr 1; omega
  refine ⟨[UInt8.ofNat (97 + i.toNat)], strAll (by rw [n2.rd, e]; rfl) rfl, by show (7 : Int) ≤ _; omega, ?_⟩
  have e2 : mkStr [47, 109, 97, 114, 107, 32] ++ mkStr [UInt8.ofNat (97 + i.toNat)] = mkStr (markT i.toNat) := mk_app _ _
  rw [e2]; exact hK h2 n2.fr
end Go.Proofs.Ytgpkcakanieodaa.Pa
