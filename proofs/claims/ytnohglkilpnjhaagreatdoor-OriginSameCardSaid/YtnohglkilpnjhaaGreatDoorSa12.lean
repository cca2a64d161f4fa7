/- Lemmas that the statement of this claim leans on; their own comments are taken out, for the size of the claim. No condition beyond what each lemma states. -/
import Derived.Test.YtnohglkilpnjhaaGreatDoorSa11
import Derived.Test.YtnohglkilpnjhaaGreatDoorProg
import Derived.Deep.QuietTactic
import Derived.BigQuiet
import Derived.Deep.DeepCutAuto
import Derived.Deep.RegionHeld3
import Derived.Deep.AppendLies
import Derived.Maps.AppendAt
import Derived.Great.BuildSlice
import Derived.Deep.Cut
set_option linter.unusedVariables false
set_option linter.unusedSimpArgs false
set_option linter.unusedSectionVars false
namespace Go.Proofs.YtnohglkilpnjhaaGreatDoor
open Go.RowKit
set_option maxHeartbeats 400000 in
theorem Uint_any (n:Nat) (w:World) (h1:n < 18446744073709551616) :
  Calls Tryz.prog 124 #[.int .u64 n] w fun e w'=>∃ v,e = .returned v∧Own8 w' w.heap.size 5 v (uint n)∧Below w.heap.size w w':=by
 obtain ⟨i0,hi,hz0,hz1,hz2⟩:=info_parts infoU8
 go_enter Tryz.func124,Tryz.ntmps124
 go_wp2
 go_loopw [0,3] (fun nv v wr=>∃ (k:Nat) (pre:List UInt8),k < 18446744073709551616∧nv = .int .u64 k∧uint n = pre ++ uint k∧Own8 wr w.heap.size 5 v pre∧Below w.heap.size w wr)
  (fun nv _ _=>(intOf nv).toNat)
 case atStart=>exact ⟨n,[],h1,rfl,rfl,Own8.nil _ _ _,Below.refl _ _⟩
 case round=>
  obtain ⟨k,pre,hk,rfl,heq,hown,hb⟩:=hrel
  have hp:pre.length ≤ 10:=by
   have h2:=uint_len10 h1
   rw [heq,List.length_append] at h2
   omega
  have Heq:=Lib.hid heq
  clear heq
  have hsz:=hb.size
  by_cases hlt:(128:Int) ≤ k
  ·go_wp2_with (at_builtin;refine wpList_app8 rfl (.tmp 8) (.tmp 12) 33 rfl w.heap.size 5 i0 Tryz.underlying33 hi hz0 hz1 hz2 _ pre rfl (hown.alloc _) _ [UInt8.ofNat (k % 128 + 128)] rfl ?c1 ?c2 ?c3 ?_)
   case c1=>
    rw [show ((k:Int) % 256) = ((k % 256:Nat):Int) from by omega,or128_u8 _ (by omega),show k % 256 % 128 = k % 128 from by omega]
    have e:(((k % 128 + 128:Nat)):Int) = ((UInt8.ofNat (k % 128 + 128)).toNat:Int):=by simp;omega
    rw [e]
    exact Bytes.one _ _ _
   case c2=>simp;omega
   case c3=>simp;omega
   ·intro v' w1 hown1 hg _
    have hb1:Below w.heap.size w w1:=(hb.alloc hsz _).grown hg (by simp;omega) (fun j hj=>(hown.lt j hj).1)
    clear hown hb hg hsz
    go_wp2
    go_roundw
    case rel=>
     refine ⟨k / 128,_,by omega,by go_num,?_,hown1,hb1⟩
     rw [Heq.out,uint_big (by omega)];simp
    case measure=>simp [intOf];omega
  ·go_wp2_with (at_builtin;refine wpList_app8 rfl (.tmp 14) (.tmp 17) 33 rfl w.heap.size 5 i0 Tryz.underlying33 hi hz0 hz1 hz2 _ pre rfl (hown.alloc _) _ [UInt8.ofNat k] rfl ?d1 ?d2 ?d3 ?_)
   case d1=>
    have e:(k:Int) = ((UInt8.ofNat k).toNat:Int):=by simp;omega
    rw [e]
    exact Bytes.one _ _ _
   case d2=>first | omega | (simp;omega)
   case d3=>first | omega | (simp;omega)
   ·intro v' w1 hown1 hg _
    have hb1:Below w.heap.size w w1:=(hb.alloc hsz _).grown hg (by simp;omega) (fun j hj=>(hown.lt j hj).1)
    clear hown hb hg hsz
    go_wp2
    go_ret
    refine ⟨_,rfl,?_,hb1⟩
    rw [Heq.out,uint_small (by omega)];exact hown1
set_option maxHeartbeats 400000 in
theorem refUint_any (n:Nat) (w:World) (h1:n < 18446744073709551616) :
  Calls Tryz.prog 89 #[.int .u64 n] w fun e w'=>∃ v,e = .returned v∧Own8 w' w.heap.size 5 v (uint n)∧Below w.heap.size w w':=by
 obtain ⟨i0,hi,hz0,hz1,hz2⟩:=info_parts infoU8
 go_enter Tryz.func89,Tryz.ntmps89
 go_wp2
 go_loopw [0,3] (fun nv v wr=>∃ (k:Nat) (pre:List UInt8),k < 18446744073709551616∧nv = .int .u64 k∧uint n = pre ++ uint k∧Own8 wr w.heap.size 5 v pre∧Below w.heap.size w wr)
  (fun nv _ _=>(intOf nv).toNat)
 case atStart=>exact ⟨n,[],h1,rfl,rfl,Own8.nil _ _ _,Below.refl _ _⟩
 case round=>
  obtain ⟨k,pre,hk,rfl,heq,hown,hb⟩:=hrel
  have hp:pre.length ≤ 10:=by
   have h2:=uint_len10 h1
   rw [heq,List.length_append] at h2
   omega
  have Heq:=Lib.hid heq
  clear heq
  have hsz:=hb.size
  by_cases hlt:(128:Int) ≤ k
  ·go_wp2_with (at_builtin;refine wpList_app8 rfl _ _ 33 rfl w.heap.size 5 i0 Tryz.underlying33 hi hz0 hz1 hz2 _ pre rfl (hown.alloc _) _ [UInt8.ofNat (k % 128 + 128)] rfl ?c1 ?c2 ?c3 ?_)
   case c1=>
    have e:(k:Int) % 128 + 128 = ((UInt8.ofNat (k % 128 + 128)).toNat:Int):=by simp;omega
    rw [e]
    exact Bytes.one _ _ _
   case c2=>first | omega | (simp;omega)
   case c3=>first | omega | (simp;omega)
   ·intro v' w1 hown1 hg _
    have hb1:Below w.heap.size w w1:=(hb.alloc hsz _).grown hg (by simp;omega) (fun j hj=>(hown.lt j hj).1)
    clear hown hb hg hsz
    go_wp2
    go_roundw
    case rel=>
     refine ⟨k / 128,_,by omega,by go_num,?_,hown1,hb1⟩
     rw [Heq.out,uint_big (by omega)];simp
    case measure=>simp [intOf];omega
  ·go_wp2_with (at_builtin;refine wpList_app8 rfl _ _ 33 rfl w.heap.size 5 i0 Tryz.underlying33 hi hz0 hz1 hz2 _ pre rfl (hown.alloc _) _ [UInt8.ofNat k] rfl ?d1 ?d2 ?d3 ?_)
   case d1=>
    have e:(k:Int) = ((UInt8.ofNat k).toNat:Int):=by simp;omega
    rw [e]
    exact Bytes.one _ _ _
   case d2=>first | omega | (simp;omega)
   case d3=>first | omega | (simp;omega)
   ·intro v' w1 hown1 hg _
    have hb1:Below w.heap.size w w1:=(hb.alloc hsz _).grown hg (by simp;omega) (fun j hj=>(hown.lt j hj).1)
    clear hown hb hg hsz
    go_wp2
    go_ret
    refine ⟨_,rfl,?_,hb1⟩
    rw [Heq.out,uint_small (by omega)];exact hown1
theorem Uint_at (x:Int) (n:Nat) (w:World) (hx:x = n) (h1:n < 18446744073709551616) :
  Calls Tryz.prog 124 #[.int .u64 x] w fun e w'=>∃ v,e = .returned v∧Own8 w' w.heap.size 5 v (uint n)∧Below w.heap.size w w':=by
 subst hx;exact Uint_any n w h1
theorem refUint_at (x:Int) (n:Nat) (w:World) (hx:x = n) (h1:n < 18446744073709551616) :
  Calls Tryz.prog 89 #[.int .u64 x] w fun e w'=>∃ v,e = .returned v∧Own8 w' w.heap.size 5 v (uint n)∧Below w.heap.size w w':=by
 subst hx;exact refUint_any n w h1
def EncPost (w:World) (r:Option (List UInt8)) (e:Ending) (w':World):Prop:=
 Below w.heap.size w w'∧∃ v,match r with
  | none=>e = .returned (.tuple #[.slice none 0 0,.int .i64 1])
  | some c=>e = .returned (.tuple #[v,.int .i64 0])∧Own8 w' w.heap.size 5 v c
theorem enc_none {w w':World} {r:Option (List UInt8)} (h:r = none) (hb:Below w.heap.size w w'):EncPost w r (.returned (.tuple #[.slice none 0 0,.int .i64 1])) w':=by
 subst h;exact ⟨hb,.slice none 0 0,rfl⟩
theorem enc_some {w w':World} {r:Option (List UInt8)} {c:List UInt8} {v:Value} (h:r = some c) (hb:Below w.heap.size w w') (hv:Own8 w' w.heap.size 5 v c):EncPost w r (.returned (.tuple #[v,.int .i64 0])) w':=by
 subst h;exact ⟨hb,v,rfl,hv⟩
set_option maxRecDepth 100000 in
set_option maxHeartbeats 1600000 in
theorem Encode_any (v:Value) (l:List It) (w:World) (hl:Items w v l) :
  Calls Tryz.prog 125 #[v] w (EncPost w (encL l)):=by
 obtain ⟨i0,hi,hz0,hz1,hz2⟩:=info_parts infoU8
 obtain ⟨a,cp,rfl⟩:=hl.len
 have HL:=Lib.hid hl
 have hll:=hl.le
 clear hl
 go_enter Tryz.func125,Tryz.ntmps125
 go_wp2
 go_loopw [4,5,10] (fun ov lv iv wr=>∃ (k:Nat) (last:Int) (out:List UInt8),k ≤ l.length∧out.length ≤ 65536∧0 ≤ last∧last ≤ 63∧lv = .int .i64 last∧iv = .int .i64 k∧encL l = encF (l.drop k) last out ∧
   Own8 wr w.heap.size 5 ov out∧Below w.heap.size w wr)
  (fun _ _ iv _=>l.length - (intOf iv).toNat)
 case atStart=>exact ⟨0,0,[],by omega,by simp,by omega,by omega,rfl,rfl,rfl,Own8.nil _ _ _,Below.refl _ _⟩
 case round=>
  obtain ⟨k,last,out,hk,ho,hla,hlb,rfl,rfl,heq,hown,hb⟩:=hrel
  have hsz:=hb.size
  by_cases hlt:k < l.length
  ·obtain ⟨b,off,c',hv,hbl,hc⟩:=HL.out.cell (by omega)
   obtain ⟨rfl,rfl⟩:a = some ⟨b,off,none⟩∧cp = c':=by cases hv;exact ⟨rfl,rfl⟩
   obtain ⟨hc1,u,hc2,hu⟩:=hc k hlt
   have hc1:=(hb.cell (p:=⟨b,off + k * 2,none⟩) hbl).trans hc1
   have hc2:=(hb.cell (p:=⟨b,off + k * 2 + 1,none⟩) hbl).trans hc2
   rw [drop_at_it hlt] at heq
   generalize l.getD k (0,[]) = x at *
   obtain ⟨ua,uc,rfl⟩:=hu.len
   obtain ⟨oa,oc,rfl⟩:=hown.bytes.len
   have Hc:=Lib.hid hc
   have Hu:=Lib.hid hu
   have Heq:=Lib.hid heq
   clear hc hv hu heq
   by_cases hx1:x.1 ≤ last
   ·go_wp2
    go_ret2
    exact enc_none (Heq.out.trans (by rw [encF,if_pos (.inl hx1)])) (hb.alloc hsz _)
   ·by_cases hx2:63 < x.1
    ·go_wp2
     go_ret2
     exact enc_none (Heq.out.trans (by rw [encF,if_pos (.inr (.inl hx2))])) (hb.alloc hsz _)
    ·by_cases hx3:65536 - (out.length:Int) < x.2.length
     ·go_wp2
      go_ret2
      exact enc_none (Heq.out.trans (by rw [encF,if_pos (.inr (.inr hx3))])) (hb.alloc hsz _)
     ·go_wp2
      have hown0:=hown.alloc (.cells #[.int .i64 x.1,.slice ua x.2.length uc] 110)
      have hb0:=hb.alloc hsz (.cells #[.int .i64 x.1,.slice ua x.2.length uc] 110)
      have hk0:(wr.alloc (.cells #[.int .i64 x.1,.slice ua x.2.length uc] 110)).cell? ⟨wr.heap.size,1,none⟩ = some (.slice ua x.2.length uc):=by go_simp
      have hs0:wr.heap.size < (wr.alloc (.cells #[.int .i64 x.1,.slice ua x.2.length uc] 110)).heap.size:=by simp
      have one1:∀ W:World,Bytes (W.alloc (.cells #[.int .u8 (IntKind.u8.wrap x.1)] 5)) (.slice (some ⟨W.heap.size,0,none⟩) 1 1) [UInt8.ofNat x.1.toNat]:=fun W=>by
       have e:Value.int .u8 (IntKind.u8.wrap x.1) = B8 (UInt8.ofNat x.1.toNat):=by unfold B8;congr 1;simp [IntKind.wrap_u8'];omega
       rw [e];exact Bytes.one _ _ _
      generalize wr.alloc (.cells #[.int .i64 x.1,.slice ua x.2.length uc] 110) = W0 at *
      go_cut [4] (fun ov W=>Own8 W w.heap.size 5 ov (out ++ [UInt8.ofNat x.1.toNat] ++ uint x.2.length ++ x.2)∧Below w.heap.size w W)
      case first=>
       have hlto:=hown.lt
       have hul:=uint_len10 (n:=x.2.length) (by omega)
       have hw64:IntKind.u64.wrap (x.2.length:Int) = (x.2.length:Int):=by simp [IntKind.wrap,IntKind.bits,IntKind.signed];omega
       go_region_held3 (fun w'=>w'.cell? ⟨wr.heap.size,1,none⟩ = some (.slice ua x.2.length uc))
        (first
         | go_keep
         | exact grownBy.cell_of hg3 (by assumption) (fun k hk=>by rcases hn2 k hk with h | h;(rcases hn1 k h with h | h;(have:=(hlto k h).2;exact Nat.ne_of_lt this);(simp at h;show k ≠ wr.heap.size;omega));(show k ≠ wr.heap.size;omega))
         | exact grownBy.cell_of hg2 (by assumption) (fun k hk=>by rcases hn1 k hk with h | h;(have:=(hlto k h).2;exact Nat.ne_of_lt this);(simp at h;show k ≠ wr.heap.size;omega))
         | exact grownBy.cell_of hg1 (by assumption) (fun k hk=>by have:=(hlto k hk).2;exact Nat.ne_of_lt this)
         | exact (hb2.cell (p:=⟨wr.heap.size,1,none⟩) (by show wr.heap.size < _;omega)).trans (by assumption))
        (first
         | (refine step_app8 rfl (.tmp 34) (.tmp 37) 33 rfl w.heap.size 5 i0 Tryz.underlying33 hi hz0 hz1 hz2 _ out rfl ?own _ [UInt8.ofNat x.1.toNat] rfl ?byt ?len ?bas ?_;(case own=>exact hown0.alloc _);(case byt=>exact one1 _);(case len=>first | omega | (simp;omega));(case bas=>first | omega | (simp;omega));intro v1 w1 hown1 hg1 hn1;have hsz1:W0.heap.size < w1.heap.size:=Nat.lt_of_lt_of_le (by simp) hg1.size;have hbA:Below w.heap.size w w1:=((hb0.alloc (by omega) _).drew).grown hg1 (by simp;omega) (fun j hj=>(hlto j hj).1))
         | (refine step_app8 rfl (.tmp 38) (.tmp 43) 33 rfl w.heap.size 5 i0 Tryz.underlying33 hi hz0 hz1 hz2 _ (out ++ [UInt8.ofNat x.1.toNat]) rfl ?own2 _ (uint x.2.length) rfl ?byt2 ?len2 ?bas2 ?_;(case own2=>exact hown1.new hb2);(case byt2=>exact ho2.bytes);(case len2=>simp;omega);(case bas2=>omega);intro v3 w3 hown3 hg2 hn2;have hsz3:=hg2.size;have hbC:Below w.heap.size w w3:=hbB.grown hg2 (by omega) (fun j hj=>(hown1.lt j hj).1))
         | (refine step_app8 rfl (.tmp 44) (.tmp 46) 33 rfl w.heap.size 5 i0 Tryz.underlying33 hi hz0 hz1 hz2 _ (out ++ [UInt8.ofNat x.1.toNat] ++ uint x.2.length) rfl ?own3 _ x.2 rfl ?byt3 ?len3 ?bas3 ?_;(case own3=>exact hown3);(case byt3=>exact Hu.out.of_new hbC);(case len3=>simp;omega);(case bas3=>omega);intro v4 w4 hown4 hg3 hn3;have hbD:Below w.heap.size w w4:=hbC.grown hg3 (by omega) (fun j hj=>(hown3.lt j hj).1))
         | (go_simp;go_at_call 124;refine (Uint_at _ x.2.length _ rfl (by omega)).mono ?_;rintro e w2 ⟨v2,rfl,ho2,hb2⟩;have hsz2:=hb2.size;have hbB:Below w.heap.size w w2:=hbA.trans (hb2.mono (by omega))))
       go_wp2_with fail
       go_meet
       exact ⟨hown4,hbD⟩
      case rest=>
       obtain ⟨hown',hb'⟩:=hcut
       clear hown hb hown0 hb0 hk0 hs0 one1
       have Heq2:=Heq.out
       rw [encF,if_neg (by omega)] at Heq2
       generalize out ++ [UInt8.ofNat x.1.toNat] ++ uint x.2.length ++ x.2 = out' at *
       obtain ⟨oa',oc',hoe⟩:=hown'.bytes.len
       subst hoe
       have Heq3:=Lib.hid Heq2
       clear Heq2 Heq
       have hk1:k + 1 ≤ l.length:=hlt
       have ho1:¬ (65536:Int) < out'.length→out'.length ≤ 65536:=by omega
       by_cases hx4:(65536:Int) < out'.length
       ·go_wp2
        go_ret2
        exact enc_none (Heq3.out.trans (if_pos (by omega))) hb'
       ·go_wp2
        go_roundw
        case rel=>
         refine ⟨k + 1,x.1,out',hk1,by omega,by omega,by omega,rfl,by go_num,Heq3.out.trans (if_neg (by omega)),hown',hb'⟩
        case measure=>simp [intOf];omega
  ·obtain ⟨oa,oc,rfl⟩:=hown.bytes.len
   have Heq:=Lib.hid heq
   clear heq
   go_wp2
   go_ret2
   exact enc_some (Heq.out.trans (by rw [List.drop_of_length_le (by omega)];rfl)) hb hown
abbrev ItV:=It × Value
def flatI (l:List ItV):List Value:=l.flatMap fun x=>[.int .i64 x.1.1,x.2]
theorem flatI_snoc (l:List ItV) (x:ItV):flatI (l ++ [x]) = flatI l ++ [.int .i64 x.1.1,x.2]:=by simp [flatI]
theorem flatI_at {l:List ItV} {i:Nat} (hi:i < l.length):(flatI l)[i * 2]? = some (.int .i64 (l.getD i ((0,[]),undef)).1.1)∧(flatI l)[i * 2 + 1]? = some (l.getD i ((0,[]),undef)).2:=by
 induction l generalizing i with
 | nil=>simp at hi
 | cons x l ih=>
  cases i with
  | zero=>simp [flatI]
  | succ i=>
   simp only [List.length_cons] at hi
   have:=ih (i:=i) (by omega)
   simp only [flatI,List.flatMap_cons,List.getD_cons_succ] at this ⊢
   rw [List.getElem?_append_right (by simp;omega),List.getElem?_append_right (by simp;omega)]
   simp only [List.length_cons,List.length_nil]
   rw [show (i + 1) * 2 - (0 + 1 + 1) = i * 2 by omega,show (i + 1) * 2 + 1 - (0 + 1 + 1) = i * 2 + 1 by omega]
   exact this
theorem infoItem:(Tryz.prog.info? 110).map (fun i=>(i.zero,i.size,i.bytes)) = some (some (.agg #[.int .i64 0,.slice none 0 0]),2,32):=by kernel_rfl
def OwnIt (w:World) (base:Nat) (v:Value) (l:List ItV):Prop:=w.ownsRow base 110 2 v l.length (flatI l)∧∀ x ∈ l,Bytes w x.2 x.1.2∧∀ k,x.2.ownBlock = some k→k < w.heap.size∧v.ownBlock ≠ some k
theorem OwnIt.nil (w:World) (base:Nat):OwnIt w base (.slice none 0 0) []:=⟨World.ownsRow_nil _ _ _ _,fun _ h=>by cases h⟩
theorem OwnIt.lt {w:World} {base:Nat} {v:Value} {l:List ItV} (h:OwnIt w base v l):∀ k,v.ownBlock = some k→base ≤ k∧k < w.heap.size:=World.ownsRow.lt h.1
theorem OwnIt.len {w:World} {base:Nat} {v:Value} {l:List ItV} (h:OwnIt w base v l):∃ a c,v = .slice a l.length c:=by
 rcases h.1.2 with ⟨h1,h2⟩ | ⟨g,cap,cur,rfl,_⟩
 ·rw [h1,show l.length = 0 by omega];exact ⟨_,_,rfl⟩
 ·exact ⟨_,_,rfl⟩
theorem OwnIt.items {w:World} {base:Nat} {v:Value} {l:List ItV} (h:OwnIt w base v l):Items w v (l.map (·.1)):=by
 obtain ⟨h1,a,c,rfl,h2,h3,h4,h5⟩:=Row.of_owns h.1
 refine ⟨a,c,by simp,by simpa using h2,h3,h4,fun h0=>?_⟩
 have h0':0 < l.length:=by simpa using h0
 obtain ⟨b,off,rfl,hb,hc⟩:=h5 (by omega)
 refine ⟨b,off,rfl,hb,fun i hi=>?_⟩
 have hi':i < l.length:=by simpa using hi
 obtain ⟨f1,f2⟩:=flatI_at hi'
 have e:(l.map (·.1)).getD i (0,[]) = (l.getD i ((0,[]),undef)).1:=by simp [List.getD,hi']
 rw [e]
 refine ⟨(hc _ (by omega)).trans f1,_,(by rw [Nat.add_assoc];exact (hc _ (by omega)).trans f2),?_⟩
 have hm:l.getD i ((0,[]),undef) ∈ l:=by
  rw [List.getD_eq_getElem?_getD,List.getElem?_eq_getElem hi'];exact List.getElem_mem hi'
 exact (h.2 _ hm).1
theorem OwnIt.of_new {w w':World} {base:Nat} {v:Value} {l:List ItV} (h:OwnIt w base v l) (hb:Below w.heap.size w w'):OwnIt w' base v l:=by
 refine ⟨⟨h.1.1,?_⟩,fun x hx=>⟨(h.2 x hx).1.of_new hb,fun k hk=>⟨Nat.lt_of_lt_of_le ((h.2 x hx).2 k hk).1 hb.size,((h.2 x hx).2 k hk).2⟩⟩⟩
 rcases h.1.2 with h2 | ⟨g,cap,cur,hv,hbs,hh,hr⟩
 ·exact .inl h2
 ·exact .inr ⟨g,cap,cur,hv,hbs,(hb.block g (Array.getElem?_eq_some_iff.1 hh).1).trans hh,hr⟩
theorem run_appIt {w:World} (base ty:Nat) (v:Value) (l:List ItV) (x:ItV) (hown:OwnIt w base v l) (hx:Bytes w x.2 x.1.2) (hxk:∀ k,x.2.ownBlock = some k→k < w.heap.size∧v.ownBlock ≠ some k) (g:Nat)
  (hg:w.heap[g]? = some (.cells #[.int .i64 x.1.1,x.2] 110 (0,0))) (hlen:l.length + 1 ≤ 1099511627776) (hbase:base ≤ w.heap.size) :
  ∃ v' w',(Builtin.append_ #[111,111] ty #[v,.slice (some ⟨g,0,none⟩) 1 1]).run Tryz.prog w = .ok v' w'∧OwnIt w' base v' (l ++ [x])∧w.grownBy w' v.ownBlock∧(∀ k,v'.ownBlock = some k→v.ownBlock = some k∨w.heap.size ≤ k):=by
 obtain ⟨i,hi,hz,hsize,hby⟩:=info_parts infoItem
 obtain ⟨v',w',h1,h2,h3,_,h5⟩:=run_append_own_at (P:=Tryz.prog) w base 111 ty 110 i _ 2 32 Tryz.underlying111 hi hz hsize hby (by simp [Value.cells]) (by decide) v l.length (flatI l) hown.1 ⟨g,0,none⟩ 1 1 [.int .i64 x.1.1,x.2] (by simp)
  (fun j u hj=>by
   have hjl:j < 2:=by
    rcases Nat.lt_or_ge j 2 with h | h
    ·exact h
    ·rw [List.getElem?_eq_none (by simpa using h)] at hj;cases hj
   have hadd:(⟨g,0,none⟩:Addr).add j = ⟨g,j,none⟩:=by unfold Addr.add;split <;> simp_all
   rw [hadd]
   simp only [World.cell?,hg]
   match j,hjl with
   | 0,_=>simpa using hj
   | 1,_=>simpa using hj)
  (fun u hu=>by
   obtain ⟨a,c,he⟩:=hx.len
   simp at hu
   rcases hu with rfl | rfl
   ·rfl
   ·rw [he];rfl) (by unfold maxLen;omega) (by omega) hbase
 have hnew:∀ k,v'.ownBlock = some k→v.ownBlock = some k∨w.heap.size ≤ k:=by
  intro k hk
  rcases h5 with h5 | h5
  ·exact .inl (by rw [← h5];exact hk)
  ·rw [h5] at hk;cases hk;exact .inr (Nat.le_refl _)
 have one:∀ y:ItV,Bytes w y.2 y.1.2→(∀ k,y.2.ownBlock = some k→k < w.heap.size∧v.ownBlock ≠ some k)→Bytes w' y.2 y.1.2∧∀ k,y.2.ownBlock = some k→k < w'.heap.size∧v'.ownBlock ≠ some k:=fun y hy hyk=>
  ⟨Row.of_kept hy h3 (fun k hk e=>(hyk k hk).2 e.symm),fun k hk=>⟨Nat.lt_of_lt_of_le (hyk k hk).1 h3.size,fun e=>by
   rcases hnew k e with h | h
   ·exact (hyk k hk).2 h
   ·have:=(hyk k hk).1;omega⟩⟩
 refine ⟨v',w',h1,⟨?_,?_⟩,h3,hnew⟩
 ·rw [flatI_snoc,List.length_append];exact h2
 ·intro y hy
  rcases List.mem_append.1 hy with hy | hy
  ·exact one y (hown.2 y hy).1 (hown.2 y hy).2
  ·have:y = x:=by simpa using hy
   subst this
   exact one y hx hxk
theorem wp_appIt {w:World} {o:Oper} {a:Act} {K:Act→World→Prop} {Q:Exit→Act→World→Prop} (s y:Operand)
  (ho:o.op = .call { callee:=.builtin .append,args:=#[s,y],argTypes:=#[111,111] }) (base:Nat)
  (v:Value) (l:List ItV) (x:ItV) (g:Nat) (hs:a.eval s = v) (hown:OwnIt w base v l) (hy:a.eval y = .slice (some ⟨g,0,none⟩) 1 1) (hx:Bytes w x.2 x.1.2) (hxk:∀ k,x.2.ownBlock = some k→k < w.heap.size∧v.ownBlock ≠ some k)
  (hg:w.heap[g]? = some (.cells #[.int .i64 x.1.1,x.2] 110 (0,0)))
  (hlen:l.length + 1 ≤ 1099511627776) (hbase:base ≤ w.heap.size)
  (h:∀ v' w',OwnIt w' base v' (l ++ [x])→w.grownBy w' v.ownBlock→(∀ k,v'.ownBlock = some k→v.ownBlock = some k∨w.heap.size ≤ k)→K (a.put o.dst v') w'):o.wp Tryz.prog a w K Q:=by
 obtain ⟨v',w',hr,h2,h3,h4⟩:=run_appIt base o.type v l x hown hx hxk g hg hlen hbase
 unfold Oper.wp execOp
 simp only [ho,resolve,invoke,builtin,Sem.run_bind,Sem.run_pure,Result.andThen_ok,List.map_toArray,List.map_cons,List.map_nil,hs,hy,hr]
 exact h v' w' h2 h3 h4
theorem DigAt.bytes {w:World} {g off:Nat} {d:List UInt8} (h:DigAt w g off d):Bytes w (.slice (some ⟨g,off,none⟩) 32 32) d:=by
 have hl:=h.1
 unfold Bytes
 rw [hl]
 exact ⟨by simp [hl],_,32,rfl,Nat.le_refl _,by unfold maxLen;omega,(fun e=>nomatch e),fun _=>⟨g,off,rfl,World.block_lt_of_cell? _ _ (by
  have:=h.2 0 (by omega)
  rw [Nat.add_zero] at this
  rw [List.getElem?_map,List.getElem?_eq_getElem (by omega)] at this
  exact this),fun j hj=>h.2 j (by omega)⟩⟩
end Go.Proofs.YtnohglkilpnjhaaGreatDoor
namespace Go.Proofs.YtnohglkilpnjhaaGreatDoor
open Go.RowKit
set_option maxRecDepth 100000
theorem imgIts_step {l:List BlobL} {k:Nat} {x:BlobL} (h:l[k]? = some x):imgIts (l.take (k + 1)) = imgIts (l.take k) ++ [(((k + 1:Nat):Int),blobB x)]:=by
 have hk:k < l.length:=(List.getElem?_eq_some_iff.1 h).1
 unfold imgIts
 rw [List.take_add_one,h,Option.toList_some,imgItsF_snoc,List.length_take,Nat.min_eq_left (by omega),Nat.zero_add]
theorem items_four {w:World} {a b c d:It} {va vb vc vd:Value} (ha:Bytes w va a.2) (hb:Bytes w vb b.2) (hc:Bytes w vc c.2) (hd:Bytes w vd d.2) :
  Items (w.alloc (.cells #[.int .i64 a.1,va,.int .i64 b.1,vb,.int .i64 c.1,vc,.int .i64 d.1,vd] 110)) (.slice (some ⟨w.heap.size,0,none⟩) 4 4) [a,b,c,d]:=by
 have hg:=heap_alloc_new w (.cells #[.int .i64 a.1,va,.int .i64 b.1,vb,.int .i64 c.1,vc,.int .i64 d.1,vd] 110)
 refine ⟨some ⟨w.heap.size,0,none⟩,4,rfl,Nat.le_refl _,by unfold maxLen;omega,(fun e=>nomatch e),fun _=>⟨_,0,rfl,by simp,fun i hi=>?_⟩⟩
 simp only [List.length_cons,List.length_nil] at hi
 rcases (by omega:i = 0∨i = 1∨i = 2∨i = 3) with rfl | rfl | rfl | rfl
 ·exact ⟨by simp only [World.cell?,hg];rfl,va,by simp only [World.cell?,hg];rfl,ha.of_alloc _⟩
 ·exact ⟨by simp only [World.cell?,hg];rfl,vb,by simp only [World.cell?,hg];rfl,hb.of_alloc _⟩
 ·exact ⟨by simp only [World.cell?,hg];rfl,vc,by simp only [World.cell?,hg];rfl,hc.of_alloc _⟩
 ·exact ⟨by simp only [World.cell?,hg];rfl,vd,by simp only [World.cell?,hg];rfl,hd.of_alloc _⟩
def EncIPost (w:World) (l:List BlobL) (e:Ending) (w':World):Prop:=∃ v,e = .returned (.tuple #[v,.int .i64 (encGE l)])∧Bytes w' v ((encG l).getD [])∧Below w.heap.size w w'
def EncIPostO (w:World) (l:List BlobL) (e:Ending) (w':World):Prop:=∃ v,e = .returned (.tuple #[v,.int .i64 (encGE l)])∧Own8 w' w.heap.size 5 v ((encG l).getD [])∧Below w.heap.size w w'
theorem EncIPostO.post {w w':World} {l:List BlobL} {e:Ending} (h:EncIPostO w l e w'):EncIPost w l e w':=by
 obtain ⟨v,h1,h2,h3⟩:=h
 exact ⟨v,h1,h2.bytes,h3⟩
theorem encG_bad {w w':World} {l:List BlobL} (h:imageE l ≠ 0) (hb:Below w.heap.size w w'):EncIPostO w l (.returned (.tuple #[.slice none 0 0,.int .i64 (imageE l)])) w':=
 ⟨_,by unfold encGE;rw [if_neg h],by unfold encG;rw [if_neg h];exact Own8.nil _ _ _,hb⟩
theorem encG_post {w w1 w':World} {l:List BlobL} {e:Ending} (h:imageE l = 0) (he:EncPost w1 (encL (imgIts l)) e w') (hb:Below w.heap.size w w1):EncIPostO w l e w':=by
 unfold EncIPostO encGE encG
 rw [if_pos h,if_pos h]
 cases hc:encL (imgIts l) with
 | none=>
  rw [hc] at he
  obtain ⟨h1,v,rfl⟩:=he
  exact ⟨_,rfl,Own8.nil _ _ _,below_next hb h1⟩
 | some c=>
  rw [hc] at he
  obtain ⟨h1,v,rfl,ho⟩:=he
  exact ⟨_,rfl,ho.mono hb.size,below_next hb h1⟩
def EncIM (w0:World) (l:List BlobL) (lv iv:Value) (W:World):Prop:=∃ (k:Nat) (its:List ItV),k ≤ l.length∧iv = .int .i64 k∧its.map (·.1) = imgIts (l.take k)∧its.length = k∧OwnIt W w0.heap.size lv its∧Below w0.heap.size w0 W
set_option maxHeartbeats 6400000 in
theorem EncImgO_any (v:Value) (l:List BlobL) (w:World) (hl:RBlob.Row w v l):Calls Tryz.prog 77 #[.agg #[v]] w (EncIPostO w l):=by
 obtain ⟨a,c,hv⟩:=hl.len
 subst hv
 have hle:=hl.le
 obtain ⟨W,hW⟩:∃ W,w.alloc (.cells #[.slice a l.length c] 52) = W:=⟨_,rfl⟩
 have ho:One W w.heap.size (.slice a l.length c) 52:=by rw [← hW];exact heap_alloc_new w _
 have hb:Below w.heap.size w W:=by rw [← hW];exact (Below.refl _ w).alloc (Nat.le_refl _) _
 have hc1:=ho.cell
 have hI:=Image_any _ l W (hl.of_new hb)
 have HL:=Lib.hid (hl.of_new hb)
 have HO:=Lib.hid ho
 have HW:=Lib.hid hW
 have HB:=Lib.hid hb
 have HI:=Lib.hid hI
 have hls:=ho.lt
 clear hl ho hW hb hI
 obtain ⟨E,hE⟩:∃ E,imageE l = E:=⟨_,rfl⟩
 rw [hE] at HI
 have HE:=Lib.hid hE
 by_cases h0:E = 0
 case neg=>
  have HN:=Lib.hid (show imageE l ≠ 0 by rw [hE];exact h0)
  have t1:(E == 0) = false:=beq_eq_false_iff_ne.2 h0
  have t2:(E != 0) = true:=bne_iff_ne.2 h0
  clear hE h0
  go_enter Tryz.func77,Tryz.ntmps77
  go_upto_region 1 with (fail)
  rw [HW.out]
  go_wp2_with (go_at_call 123;refine HI.out.mono ?_;rintro e w2 ⟨rfl,hb2⟩;have HB2:=Lib.hid (below_next HB.out hb2);clear hb2)
  go_ret2
  rw [← HE.out]
  exact encG_bad HN.out HB2.out
 subst h0
 have HR:=Lib.hid (image_rights hE)
 have h16:l.length ≤ 16:=by
  unfold imageE at hE
  split at hE
  ·cases hE
  ·omega
 clear hE
 go_enter Tryz.func77,Tryz.ntmps77
 go_upto_region 1 with (fail)
 rw [HW.out]
 go_wp2_with (go_at_call 123;refine HI.out.mono ?_;rintro e w2 ⟨rfl,hb2⟩;have hc2:=Grew.cell hb2 hc1;have HB2:=Lib.hid (below_next HB.out hb2);have HL2:=Lib.hid (HL.out.of_new hb2);clear hb2)
 go_loopw [5,6,7,8,9,10,11,20] (fun lv _ _ _ _ _ _ iv W'=>EncIM w2 l lv iv W') (fun _ _ _ _ _ _ _ iv _=>l.length - (intOf iv).toNat)
 case atStart=>exact ⟨0,[],Nat.zero_le _,rfl,by simp [imgIts,imgItsF],rfl,OwnIt.nil _ _,Below.refl _ _⟩
 case round=>
  obtain ⟨k,its,hk,rfl,hit,hil,hown,hbr⟩:=hrel
  obtain ⟨la,lc,hv⟩:=hown.len
  subst hv
  by_cases hlt:k < l.length
  ·obtain ⟨b,off,c',hv,hbl,hc⟩:=HL2.out.at_ (by omega)
   obtain ⟨rfl,rfl⟩:a = some ⟨b,off,none⟩∧c = c':=by cases hv;exact ⟨rfl,rfl⟩
   obtain ⟨y,hy⟩:∃ y,l[k]? = some y:=⟨_,List.getElem?_eq_getElem hlt⟩
   have hat:=(hc k y hy).of_new hbr
   have hyo:=hat.1
   have hyr:=right_bd (HR.out y (List.mem_of_getElem? hy))
   have hki:(k:Int) < (l.length:Int):=by omega
   have hk16:(k:Int) ≤ 16:=by omega
   have hst:=imgIts_step hy
   obtain ⟨n,hn⟩:∃ n:Nat,y.size = (n:Int):=⟨y.size.toNat,by omega⟩
   obtain ⟨q,hq⟩:∃ q:Nat,y.piece = (q:Int):=⟨y.piece.toNat,by omega⟩
   have hnq:n ≤ 1048576∧q ≤ 1048576:=by omega
   have HY:=Lib.hid hy
   have HIT:=Lib.hid hit
   have HIL:=Lib.hid hil
   have HWN:=Lib.hid hown
   have HBR:=Lib.hid hbr
   have HAT:=Lib.hid hat
   have HYO:=Lib.hid hyo
   have HYR:=Lib.hid hyr
   have HST:=Lib.hid hst
   have HN:=Lib.hid hn
   have HQ:=Lib.hid hq
   have HNQ:=Lib.hid hnq
   clear hv hc hy hit hil hown hbr hat hyo hyr hst hn hq hnq
   go_upto_region 8 with (first
    | ((with_reducible refine wpList_plain (o:=⟨some 24,Op.load _ _,_,_,_,_⟩) rfl fun K hK=>?_);(refine HAT.out.wp rfl rfl (hK _ _ ?_)))
    | ((with_reducible refine wpList_plain (o:=⟨some 7,Op.alloc _,_,_,_,_⟩) rfl fun K hK=>?_);(refine RBlob.wp_alloc rfl fun w4 ho4 hb4 hs4=>hK _ _ ?_);have HO4:=Lib.hid ho4;have HB4:=Lib.hid hb4;clear ho4 hb4 hs4)
    | ((with_reducible refine wpList_plain (o:=⟨none,Op.store _ (.tmp 7) (.tmp 24),_,_,_,_⟩) rfl fun K hK=>?_);(refine HO4.out.store (.tmp 7) (.tmp 24) rfl rfl rfl HYO.out fun w5 ho5 hg5 hs5=>hK _ _ ?_);have hb5:=HB4.out.grown hg5 (by have:=HB4.out.size;omega) (fun k e=>by cases e;exact Nat.le_refl _);have HO5:=Lib.hid ho5;have HB5:=Lib.hid hb5;clear ho5 hg5 hs5 hb5))
   have hyO:=HO5.out.blobO
   have c32:=hyO.size
   have c33:=hyO.piece
   rw [HN.out] at c32
   rw [HQ.out] at c33
   have hwn:IntKind.u64.wrap (n:Int) = (n:Int):=by have:=HNQ.out;simp [IntKind.wrap,IntKind.bits,IntKind.signed];omega
   have hwq:IntKind.u64.wrap (q:Int) = (q:Int):=by have:=HNQ.out;simp [IntKind.wrap,IntKind.bits,IntKind.signed];omega
   have hbx:=Below.refl w5.heap.size w5
   have hn64:n < 18446744073709551616:=by have:=HNQ.out;omega
   have hq64:q < 18446744073709551616:=by have:=HNQ.out;omega
   have hls5:=HO5.out.lt
   clear hyO
   go_upto_region 8 with (fail)
   try simp only [Act.put]
   try go_frame
   go_cut [8,9] (fun v8 v9 W'=>Own8 W' w5.heap.size 5 v8 (uint n)∧Own8 W' w5.heap.size 5 v9 (uint q)∧Below w5.heap.size w5 W')
   case first=>
    go_region_with (first
     | (go_at_call 124;(with_reducible refine (Uint_at _ n _ rfl hn64).mono ?_);rintro e w6 ⟨v6,rfl,ho6,hb6⟩;(try replace c32:=Grew.cell hb6 c32);(try replace c33:=Grew.cell hb6 c33);(try replace ho7:=ho7.new hb6);(first | replace hbx:=below_next hbx.drew hb6 | replace hbx:=below_next hbx hb6))
     | (go_at_call 124;(with_reducible refine (Uint_at _ q _ rfl hq64).mono ?_);rintro e w7 ⟨v7,rfl,ho7,hb7⟩;(try replace c32:=Grew.cell hb7 c32);(try replace c33:=Grew.cell hb7 c33);(try replace ho6:=ho6.new hb7);(first | replace hbx:=below_next hbx.drew hb7 | replace hbx:=below_next hbx hb7)))
    all_goals
     go_wp2_with fail
     go_meet
     have hdr:w5.drew.heap.size = w5.heap.size:=rfl
     have hz6:=hb6.size
     have hz7:=hb7.size
     exact ⟨ho6.mono (by omega),ho7.mono (by omega),hbx⟩
   case rest=>
    rename World=>w6
    obtain ⟨ho8,ho9,hb6⟩:=hcut
    obtain ⟨a8,c8,hv⟩:=ho8.bytes.len
    subst hv
    obtain ⟨a9,c9,hv⟩:=ho9.bytes.len
    subst hv
    have HO6:=Lib.hid (HO5.out.of_new hb6)
    have HO8:=Lib.hid ho8
    have HO9:=Lib.hid ho9
    have HB6:=Lib.hid (below_next HB5.out hb6)
    clear ho8 ho9 hb6 c32 c33 hbx hwn hwq
    have hyb:=HO6.out.blobO
    have HD7:=Lib.hid hyb.dig.bytes
    have HR7:=Lib.hid hyb.root.bytes
    have hits:blobIts y = [(1,y.dig),(2,uint n),(3,uint q),(4,y.root)]:=by unfold blobIts;rw [HN.out,HQ.out];rfl
    have hyr:=HYR.out
    have henc:encL (blobIts y) = some (blobB y):=enc_blob HYO.out ⟨by omega,by omega⟩ ⟨by omega,by omega⟩
    rw [hits] at henc
    have HEN:=Lib.hid henc
    clear hyb hits hyr henc
    go_upto_region 9 with (fail)
    go_region_with (go_at_call 125;refine (Encode_any _ [(1,y.dig),(2,uint n),(3,uint q),(4,y.root)] _ (by exact items_four HD7.out HO8.out.bytes HO9.out.bytes HR7.out)).mono ?_;intro e w9 hp;rw [HEN.out] at hp;obtain ⟨hb9,v9,rfl,ho9⟩:=hp)
    have hdr:(w6.alloc (.cells #[.int .i64 1,.slice (some ⟨wr.heap.size,0,none⟩) 32 32,.int .i64 2,.slice a8 (uint n).length c8,.int .i64 3,.slice a9 (uint q).length c9,.int .i64 4,.slice (some ⟨wr.heap.size,34,none⟩) 32 32] 110)).drew.heap.size = w6.heap.size + 1:=by simp [World.drew]
    have hlo:=ho9.lt
    rw [hdr] at hlo
    have HB9:=Lib.hid (below_next ((HB6.out.alloc HB6.out.size _).drew) hb9)
    obtain ⟨a10,c10,hv⟩:=ho9.bytes.len
    subst hv
    have HV9:=Lib.hid ho9.bytes
    have HLO:=Lib.hid hlo
    have hs6:=HB6.out.size
    have hs9:=HB9.out.size
    have hsr:=HBR.out.size
    clear hb9 ho9 hdr hlo
    go_wp2_with (first
     | ((with_reducible refine wpList_plain (o:=⟨some 54,_,_,_,_,_⟩) rfl fun K hK=>?_);refine wp_appIt (.tmp 48) (.tmp 53) rfl w2.heap.size _ its (((k:Int) + 1,blobB y),.slice a10 (blobB y).length c10) w9.heap.size rfl ((HWN.out.of_new HB9.out).of_new ((Below.refl _ w9).alloc (Nat.le_refl _) _)) rfl (HV9.out.of_new ((Below.refl _ w9).alloc (Nat.le_refl _) _)) (fun z hz=>⟨by have:=(HLO.out z hz).2;simp;omega,fun e=>by have:=(HWN.out.lt z e).2;have:=(HLO.out z hz).1;omega⟩) (heap_alloc_new w9 _) (by have:=HIL.out;omega) (by simp;omega) ?_;intro v11 w11 ho11 hg11 hn11;refine hK _ _ ?_;obtain ⟨a11,c11,hv11⟩:=ho11.len;subst hv11;have HO11:=Lib.hid ho11;have HG11:=Lib.hid hg11;clear ho11 hg11 hn11 hK))
    go_roundw
    case rel=>
     refine ⟨k + 1,its ++ [(((k:Int) + 1,blobB y),.slice a10 (blobB y).length c10)],by omega,by go_num,?_,by have:=HIL.out;simp;omega,by have h:=HO11.out;rw [List.length_append,List.length_singleton] at h;exact h,(below_next HBR.out ((HB9.out).alloc HB9.out.size _)).grown HG11.out (by simp;omega) (fun z hz=>(HWN.out.lt z hz).1)⟩
     rw [List.map_append,HIT.out,HST.out]
     rfl
    case measure=>simp [intOf];omega
  ·obtain rfl:k = l.length:=by omega
   rw [List.take_length] at hit
   have hI:=hown.items
   rw [hit] at hI
   have hEn:=Encode_any _ _ wr hI
   have HEn:=Lib.hid hEn
   have HBR:=Lib.hid (below_next HB2.out hbr)
   clear hI hit hil hown hEn hbr
   go_wp2_with fail
   refine HEn.out.mono ?_
   intro e w4 hp
   have hq:=encG_post HE.out hp HBR.out
   obtain ⟨v4,rfl,hv4,hb4⟩:=hq
   have HV4:=Lib.hid hv4
   have HB4:=Lib.hid hb4
   clear hp hv4 hb4
   go_wp2
   go_ret2
   exact ⟨_,rfl,HV4.out,HB4.out⟩
theorem EncImg_any (v:Value) (l:List BlobL) (w:World) (hl:RBlob.Row w v l):Calls Tryz.prog 77 #[.agg #[v]] w (EncIPost w l):=(EncImgO_any v l w hl).mono fun _ _ h=>h.post
theorem imageE_short {l:List BlobL} (h:l.length < 1∨16 < l.length):imageE l = 1:=by unfold imageE;rw [if_pos (h.imp id .inl)]
theorem imageE_odd {l:List BlobL} {x:BlobL} (h:x ∈ l) (hx:mrightB x.size x.piece = false):imageE l = 1:=by
 unfold imageE
 have hr:rightsB l = false:=by
  cases hr:rightsB l
  ·rfl
  ·have:=List.all_eq_true.1 hr x h
   rw [hx] at this;cases this
 rw [if_pos (.inr (.inr hr))]
theorem imageE_fine {l:List BlobL} (h1:¬ l.length < 1) (h2:¬ 16 < l.length) (hr:rightsB l = true):imageE l = if (digs l).Nodup then 0 else 5:=by
 unfold imageE
 rw [if_neg]
 rintro (h | h | h)
 ·exact h1 h
 ·exact h2 h
 ·rw [hr] at h;cases h
theorem rights_step {l:List BlobL} {k:Nat} {x:BlobL} (h:l[k]? = some x) (h1:rightsB (l.take k) = true) (h2:mrightB x.size x.piece = true):rightsB (l.take (k + 1)) = true:=by
 unfold rightsB at *
 rw [List.take_add_one,h,List.all_append,h1]
 simp [h2]
def RImgI (w0:World) (l:List BlobL) (tv iv:Value) (W:World):Prop:=∃ k:Nat,k ≤ l.length∧iv = .int .i64 k∧tv = .bool (!decide (digs (l.take k)).Nodup)∧rightsB (l.take k) = true∧Below w0.heap.size w0 W
def RImgJ (w0:World) (l:List BlobL) (i:Nat) (d:List UInt8) (tv kv:Value) (W:World):Prop:=∃ k:Nat,k ≤ i∧kv = .int .i64 k∧tv = .bool (!decide (digs (l.take i)).Nodup || decide (d ∈ digs (l.take k)))∧Below w0.heap.size w0 W
theorem twice_step {l:List BlobL} {k:Nat} {x:BlobL} (h:l[k]? = some x):(!decide (digs (l.take (k + 1))).Nodup) = (!decide (digs (l.take k)).Nodup || decide (x.dig ∈ digs (l.take k))):=by
 have e:decide (digs (l.take k) ++ [x.dig]).Nodup = (decide (digs (l.take k)).Nodup && !decide (x.dig ∈ digs (l.take k))):=by
  rw [Bool.eq_iff_iff]
  simp only [decide_eq_true_eq,Bool.and_eq_true,Bool.not_eq_true',decide_eq_false_iff_not,nodup_snoc]
 rw [digs_step h,e]
 cases decide (digs (l.take k)).Nodup <;> cases decide (x.dig ∈ digs (l.take k)) <;> rfl
theorem mem_step {l:List BlobL} {k:Nat} {x:BlobL} {d:List UInt8} (h:l[k]? = some x):decide (d ∈ digs (l.take (k + 1))) = (decide (d ∈ digs (l.take k)) || decide (x.dig = d)):=by
 rw [digs_step h,Bool.eq_iff_iff]
 simp only [List.mem_append,List.mem_singleton,Bool.or_eq_true,decide_eq_true_eq]
 exact or_congr Iff.rfl eq_comm
set_option maxHeartbeats 6400000 in
theorem RImage_any (v:Value) (l:List BlobL) (w:World) (hl:RBlob.Row w v l):Calls Tryz.prog 92 #[.agg #[v]] w fun e w'=>e = .returned (.int .i64 (imageE l))∧Below w.heap.size w w':=by
 obtain ⟨a,c,hv⟩:=hl.len
 subst hv
 have hle:=hl.le
 obtain ⟨W,hW⟩:∃ W,w.alloc (.cells #[.slice a l.length c] 52) = W:=⟨_,rfl⟩
 have ho:One W w.heap.size (.slice a l.length c) 52:=by rw [← hW];exact heap_alloc_new w _
 have hb:Below w.heap.size w W:=by rw [← hW];exact (Below.refl _ w).alloc (Nat.le_refl _) _
 have hc1:=ho.cell
 have HL:=Lib.hid (hl.of_new hb)
 have HO:=Lib.hid ho
 have HW:=Lib.hid hW
 have HB:=Lib.hid hb
 clear hl ho hW hb
 by_cases h1:l.length < 1
 ·have HE:=Lib.hid (imageE_short (.inl h1))
  have h1i:(l.length:Int) < 1:=by omega
  clear h1
  go_enter Tryz.func92,Tryz.ntmps92
  go_upto_region 1 with (fail)
  rw [HW.out]
  go_wp2
  go_ret
  exact ⟨ret_int5 HE.out,HB.out⟩
 have h1i:¬ (l.length:Int) < 1:=by omega
 by_cases h2:16 < l.length
 ·have HE:=Lib.hid (imageE_short (.inr h2))
  have h2i:(16:Int) < (l.length:Int):=by omega
  clear h1 h2
  go_enter Tryz.func92,Tryz.ntmps92
  go_upto_region 1 with (fail)
  rw [HW.out]
  go_wp2
  go_ret
  exact ⟨ret_int5 HE.out,HB.out⟩
 have h2i:¬ (16:Int) < (l.length:Int):=by omega
 have HE:=Lib.hid (fun hr=>imageE_fine h1 h2 hr)
 have h2l:(l.length:Int) ≤ 16:=by omega
 clear h1 h2
 go_enter Tryz.func92,Tryz.ntmps92
 go_upto_region 1 with (fail)
 rw [HW.out]
 go_wp2
 go_loopw [3,4,5,6] (fun tv iv _ _ W'=>RImgI W l tv iv W') (fun _ iv _ _ _=>l.length - (intOf iv).toNat)
 case atStart=>exact ⟨0,Nat.zero_le _,rfl,by simp [digs],rfl,Below.refl _ _⟩
 case round=>
  obtain ⟨i,hi,rfl,rfl,hri,hbr⟩:=hrel
  have hc2:=Grew.cell hbr hc1
  by_cases hlt:i < l.length
  ·obtain ⟨b,off,c',hv,hbl,hc⟩:=HL.out.at_ (by omega)
   obtain ⟨rfl,rfl⟩:a = some ⟨b,off,none⟩∧c = c':=by cases hv;exact ⟨rfl,rfl⟩
   obtain ⟨y,hy⟩:∃ y,l[i]? = some y:=⟨_,List.getElem?_eq_getElem hlt⟩
   have hat:=(hc i y hy).of_new hbr
   have hR:=fun w'=>RRight_any y w' hat.1
   have hii:(i:Int) < (l.length:Int):=by omega
   have HC:=Lib.hid hc
   have HY:=Lib.hid hy
   have HAT:=Lib.hid hat
   have HBR:=Lib.hid hbr
   have HRI:=Lib.hid hri
   obtain ⟨TW,hTW⟩:∃ TW,(!decide (digs (l.take i)).Nodup) = TW:=⟨_,rfl⟩
   have HTW:=Lib.hid hTW
   rw [hTW]
   clear hv hc hy hat hbr hri hTW
   rcases hrb:mrightB y.size y.piece with _ | _
   ·rw [hrb] at hR
    have HR:=Lib.hid hR
    have HN:=Lib.hid (imageE_odd (List.mem_of_getElem? HY.out) hrb)
    clear hR hrb
    go_wp2_with (first
     | ((with_reducible refine wpList_plain (o:=⟨some 28,Op.load _ _,_,_,_,_⟩) rfl fun K hK=>?_);(refine HAT.out.wp rfl rfl (hK _ _ ?_)))
     | (go_at_call 143;refine (HR.out _).mono ?_;rintro e w4 ⟨rfl,hb4⟩;have HB4:=Lib.hid (below_next (below_next HB.out HBR.out) hb4);clear hb4))
    go_ret
    exact ⟨ret_int5 HN.out,HB4.out⟩
   rw [hrb] at hR
   have HR:=Lib.hid hR
   have HRS:=Lib.hid (rights_step HY.out HRI.out hrb)
   clear hR hrb
   rename World=>wo
   go_wp2_with (first
    | ((with_reducible refine wpList_plain (o:=⟨some 28,Op.load _ _,_,_,_,_⟩) rfl fun K hK=>?_);(refine HAT.out.wp rfl rfl (hK _ _ ?_)))
    | (go_at_call 143;refine (HR.out _).mono ?_;rintro e w4 ⟨rfl,hb4⟩;have HB4:=Lib.hid (below_next HBR.out hb4);have HAT4:=Lib.hid (HAT.out.of_new hb4);clear hb4))
   go_loopw [3,6] (fun tv kv W'=>RImgJ w4 l i y.dig tv kv W') (fun _ kv _=>i - (intOf kv).toNat)
   case atStart=>exact ⟨0,Nat.zero_le _,rfl,by rw [HTW.out];simp [digs],Below.refl _ _⟩
   case round=>
    obtain ⟨k,hk,rfl,rfl,hbk⟩:=hrel
    rw [HTW.out]
    have hbB:=below_next HB4.out hbk
    have hc3:=Grew.cell hbB hc1
    by_cases hlt2:k < i
    ·obtain ⟨z,hz⟩:∃ z,l[k]? = some z:=⟨_,List.getElem?_eq_getElem (by omega)⟩
     have hatz:=(HC.out k z hz).of_new hbB
     have haty:=HAT4.out.of_new hbk
     have hdz:=hatz.dig5
     have hdy:=haty.dig5
     have hst:=mem_step (d:=y.dig) hz
     obtain ⟨M,hM⟩:∃ M,decide (y.dig ∈ digs (l.take k)) = M:=⟨_,rfl⟩
     rw [hM] at hst ⊢
     have hq:=fun w'=>run_eql_dig z.dig y.dig hatz.1.1 haty.1.1 w'
     have hgd:=guard_dig
     have hco:∀ w',Grew wr w'→w'.cell? ⟨w.heap.size,0,none⟩ = some (.slice (some ⟨b,off,none⟩) l.length c):=fun w' h=>Grew.cell h hc3
     have hki:(k:Int) < (i:Int):=by omega
     have hkl:(k:Int) < (l.length:Int):=by omega
     have HST:=Lib.hid hst
     have HBK:=Lib.hid hbk
     clear hz hatz haty hst hM hbk hbB
     generalize hX:decide (z.dig = y.dig) = X at hq
     have HX:=Lib.hid hX
     clear hX
     cases hT:(TW || M)
     ·go_upto_region 13 with (fail)
      refine wp_region_grew (by kernel_rfl) (by kernel_rfl) ?_
      repeat (first
       | (go_big_quiet_want;(with_reducible apply quiet_load_at (ty:=31) (x:=.tmp _));rfl;rfl;assumption;go_simp;go_big_quiet_on)
       | (go_big_quiet_want;apply quiet_val;(intro w' hw';go_simp;first | done | rfl);go_simp;go_big_quiet_on)
       | (go_big_quiet_skip))
      refine wpQuiet_nil ?_
      intro w6 hw6
      have HW6:=Lib.hid (show Below wr.heap.size wr w6 from hw6)
      clear hw6
      go_wp2
      go_roundw
      case rel=>exact ⟨k + 1,by omega,by go_num,by rw [HTW.out,HST.out,HX.out,← Bool.or_assoc,hT];simp,below_next HBK.out HW6.out⟩
      case measure=>simp [intOf];omega
     ·go_upto_region 13 with (fail)
      refine wp_region_grew (by kernel_rfl) (by kernel_rfl) ?_
      repeat (first
       | (go_big_quiet_want;(with_reducible apply quiet_load_at (ty:=31) (x:=.tmp _));rfl;rfl;assumption;go_simp;go_big_quiet_on)
       | (go_big_quiet_want;apply quiet_val;(intro w' hw';go_simp;first | done | rfl);go_simp;go_big_quiet_on)
       | (go_big_quiet_skip))
      refine wpQuiet_nil ?_
      intro w6 hw6
      have HW6:=Lib.hid (show Below wr.heap.size wr w6 from hw6)
      clear hw6
      go_wp2
      go_roundw
      case rel=>exact ⟨k + 1,by omega,by go_num,by rw [HTW.out,HST.out,← Bool.or_assoc,hT];simp,below_next HBK.out HW6.out⟩
      case measure=>simp [intOf];omega
    ·obtain rfl:k = i:=by omega
     have hki:¬ (k:Int) < (k:Int):=by omega
     have HT2:=Lib.hid (twice_step HY.out)
     have HBK:=Lib.hid (below_next HB4.out hbk)
     obtain ⟨M,hM⟩:∃ M,decide (y.dig ∈ digs (l.take k)) = M:=⟨_,rfl⟩
     have HM:=Lib.hid hM
     rw [hM]
     clear hbB hbk hM
     go_wp2
     go_roundw
     case rel=>exact ⟨k + 1,by omega,by go_num,by rw [HT2.out,HTW.out,HM.out],HRS.out,HBK.out⟩
     case measure=>simp [intOf];omega
  ·obtain rfl:i = l.length:=by omega
   rw [List.take_length] at hri ⊢
   have HN:=Lib.hid (HE.out hri)
   have HBR:=Lib.hid (below_next HB.out hbr)
   by_cases hn:(digs l).Nodup
   ·have HN2:=Lib.hid (HN.out.trans (if_pos hn))
    rw [show (!decide (digs l).Nodup) = false by simp [hn]]
    clear hri hbr hn
    go_wp2
    go_ret
    exact ⟨ret_int5 HN2.out,HBR.out⟩
   ·have HN2:=Lib.hid (HN.out.trans (if_neg hn))
    rw [show (!decide (digs l).Nodup) = true by simp [hn]]
    clear hri hbr hn
    go_wp2
    go_ret
    exact ⟨ret_int5 HN2.out,HBR.out⟩
end Go.Proofs.YtnohglkilpnjhaaGreatDoor
namespace Go.Proofs.YtnohglkilpnjhaaGreatDoor
open Go.RowKit
set_option maxRecDepth 100000 in
set_option maxHeartbeats 3200000 in
theorem refEncode_any (v:Value) (l:List It) (w:World) (hl:Items w v l) :
  Calls Tryz.prog 46 #[v] w (EncPost w (rencL l)):=by
 obtain ⟨i0,hi,hz0,hz1,hz2⟩:=info_parts infoU8
 obtain ⟨a,cp,rfl⟩:=hl.len
 have HL:=Lib.hid hl
 have hll:=hl.le
 clear hl
 go_enter Tryz.func46,Tryz.ntmps46
 by_cases hmany:(63:Int) < l.length
 ·go_wp2
  go_ret2
  exact enc_none (by rw [rencL,if_pos (by omega)]) (Below.refl _ _)
 ·go_wp2
  go_loopw [4,5,6] (fun ov lv iv wr=>∃ (k:Nat) (last:Int) (out:List UInt8),k ≤ l.length∧out.length ≤ 65536∧0 ≤ last∧last ≤ 63∧lv = .int .i64 last∧iv = .int .i64 k∧rencL l = rencF (l.drop k) last out ∧
    Own8 wr w.heap.size 5 ov out∧Below w.heap.size w wr)
   (fun _ _ iv _=>l.length - (intOf iv).toNat)
  case atStart=>exact ⟨0,0,[],by omega,by simp,by omega,by omega,rfl,rfl,by rw [rencL,if_neg (by omega)];rfl,Own8.nil _ _ _,Below.refl _ _⟩
  case round=>
   obtain ⟨k,last,out,hk,ho,hla,hlb,rfl,rfl,heq,hown,hb⟩:=hrel
   have hsz:=hb.size
   by_cases hlt:k < l.length
   ·obtain ⟨b,off,c',hv,hbl,hc⟩:=HL.out.cell (by omega)
    obtain ⟨rfl,rfl⟩:a = some ⟨b,off,none⟩∧cp = c':=by cases hv;exact ⟨rfl,rfl⟩
    obtain ⟨hc1',u,hc2',hu⟩:=hc k hlt
    have hc1:=(hb.cell (p:=⟨b,off + k * 2,none⟩) hbl).trans hc1'
    have hc2:=(hb.cell (p:=⟨b,off + k * 2 + 1,none⟩) hbl).trans hc2'
    rw [drop_at_it hlt] at heq
    generalize l.getD k (0,[]) = x at *
    obtain ⟨ua,uc,rfl⟩:=hu.len
    obtain ⟨oa,oc,hoe⟩:=hown.bytes.len
    subst hoe
    have Hc:=Lib.hid hc
    have Hu:=Lib.hid hu
    have Heq:=Lib.hid heq
    have Hw1:=Lib.hid hc1'
    have Hw2:=Lib.hid hc2'
    clear hc hv hu heq hc1' hc2'
    by_cases hx1:x.1 ≤ last
    ·go_wp2
     go_ret2
     exact enc_none (Heq.out.trans (by rw [rencF,if_pos (.inl hx1)])) hb
    ·by_cases hx2:63 < x.1
     ·go_wp2
      go_ret2
      exact enc_none (Heq.out.trans (by rw [rencF,if_pos (.inr (.inl hx2))])) hb
     ·by_cases hx3:(65536:Int) < x.2.length
      ·go_wp2
       go_ret2
       exact enc_none (Heq.out.trans (by rw [rencF,if_pos (.inr (.inr (by omega)))])) hb
      ·have hul:=uint_len10 (n:=x.2.length) (by omega)
       have hk1:k + 1 ≤ l.length:=hlt
       have hx1p:0 ≤ x.1:=by omega
       have one1:∀ W:World,Bytes (W.alloc (.cells #[.int .u8 x.1] 5)) (.slice (some ⟨W.heap.size,0,none⟩) 1 1) [UInt8.ofNat x.1.toNat]:=fun W=>by
        have e:Value.int .u8 x.1 = B8 (UInt8.ofNat x.1.toNat):=by unfold B8;congr 1;simp;omega
        rw [e];exact Bytes.one _ _ _
       have Hone:=Lib.hid one1
       clear one1
       go_wp2_with (at_builtin;refine wpList_app8 rfl (.tmp 45) (.tmp 48) 33 rfl w.heap.size 5 i0 Tryz.underlying33 hi hz0 hz1 hz2 _ out rfl (hown.alloc _) _ [UInt8.ofNat x.1.toNat] rfl ?c1 ?c2 ?c3 ?_)
       case c1=>exact Hone.out _
       case c2=>first | omega | (simp;omega)
       case c3=>first | omega | (simp;omega)
       intro v1 w1 hown1 hg1 _
       have hbA:Below w.heap.size w w1:=(hb.alloc hsz _).grown hg1 (by simp;omega) (fun j hj=>(hown.lt j hj).1)
       have hc1:=(hbA.cell (p:=⟨b,off + k * 2,none⟩) hbl).trans Hw1.out
       have hc2:=(hbA.cell (p:=⟨b,off + k * 2 + 1,none⟩) hbl).trans Hw2.out
       clear hg1 hb hown
       have hszA:=hbA.size
       go_wp2_with fail
       refine (refUint_at _ x.2.length _ rfl (by omega)).mono ?_
       rintro e w2 ⟨v2,rfl,ho2,hb2⟩
       have hbB:Below w.heap.size w w2:=hbA.trans (hb2.mono hszA)
       have hown2:=hown1.new hb2
       have hszB:=hbB.size
       go_wp2_with (at_builtin;refine wpList_app8 rfl (.tmp 50) (.tmp 58) 33 rfl w.heap.size 5 i0 Tryz.underlying33 hi hz0 hz1 hz2 _ (out ++ [UInt8.ofNat x.1.toNat]) rfl hown2 _ (uint x.2.length) rfl ho2.bytes ?d2 hszB ?_)
       case d2=>simp;omega
       intro v3 w3 hown3 hg3 _
       have hbC:Below w.heap.size w w3:=hbB.grown hg3 hszB (fun j hj=>(hown2.lt j hj).1)
       have hc1:=(hbC.cell (p:=⟨b,off + k * 2,none⟩) hbl).trans Hw1.out
       have hc2:=(hbC.cell (p:=⟨b,off + k * 2 + 1,none⟩) hbl).trans Hw2.out
       have hszC:=hbC.size
       have hu3:=Hu.out.of_new hbC
       clear hg3 hb2 ho2 hown1 hown2 hbA hbB
       go_wp2_with (at_builtin;refine wpList_app8 rfl (.tmp 60) (.tmp 65) 33 rfl w.heap.size 5 i0 Tryz.underlying33 hi hz0 hz1 hz2 _ _ rfl hown3 _ x.2 rfl hu3 ?e2 hszC ?_)
       case e2=>simp;omega
       intro v4 w4 hown4 hg4 _
       have hbD:Below w.heap.size w w4:=hbC.grown hg4 hszC (fun j hj=>(hown3.lt j hj).1)
       have Heq2:=Heq.out
       rw [rencF,if_neg (by omega)] at Heq2
       clear hg4 hu3 hown3 hbC hc1 hc2
       simp only [List.append_assoc,List.cons_append,List.nil_append] at hown4 Heq2
       generalize out ++ UInt8.ofNat x.1.toNat :: (uint x.2.length ++ x.2) = out' at *
       obtain ⟨oa',oc',hoe⟩:=hown4.bytes.len
       subst hoe
       have Heq3:=Lib.hid Heq2
       clear Heq2 Heq
       by_cases hx4:(65536:Int) < out'.length
       ·go_wp2
        go_ret2
        exact enc_none (Heq3.out.trans (if_pos (by omega))) hbD
       ·go_wp2
        go_roundw
        case rel=>exact ⟨k + 1,x.1,out',hk1,by omega,by omega,by omega,rfl,by go_num,Heq3.out.trans (if_neg (by omega)),hown4,hbD⟩
        case measure=>simp [intOf];omega
   ·obtain ⟨oa,oc,rfl⟩:=hown.bytes.len
    have Heq:=Lib.hid heq
    clear heq
    go_wp2
    go_ret2
    exact enc_some (Heq.out.trans (by rw [List.drop_of_length_le (by omega)];rfl)) hb hown
end Go.Proofs.YtnohglkilpnjhaaGreatDoor
