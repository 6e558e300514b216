/- One text out of several: RuneP, PrepP, RuneW, OneW, RunesW, WRuneW. -/
import Derived.Lib.DecodeN
import Derived.Lib.RuneBytes
import Derived.Lib.Hide
import Derived.Lib.ReplaceLaws
import Derived.Lib.Join
import Derived.Test.YtmnpfkbjpeaemaaGreatDoorRows
import Derived.Test.YtmnpfkbjpeaemaaGreatDoorQ1
import Derived.Deep.DeepCutAuto
import Derived.Lib.OthersKept
import Derived.Test.YtmnpfkbjpeaemaaGreatDoorQ2
set_option linter.unusedVariables false
set_option linter.unusedSimpArgs false
set_option maxRecDepth 20000
set_option maxHeartbeats 4000000
namespace Go.Proofs.YtmnpfkbjpeaemaaGreatDoor
namespace run
def fin (v low n:Nat):Nat × Nat:=if v<low∨1114111<v∨(55296≤v∧v≤57343)then(0,0)else(v,n)
def cont (b:Nat):Prop:=128≤b∧b≤191
instance (b:Nat):Decidable (cont b):=by unfold cont;infer_instance
def oneR (n b0 b1 b2 b3:Nat):Nat × Nat:=
 if b0<128 then(b0,1)
 else if 194≤b0∧b0<224 then(if 2≤n∧cont b1 then fin ((b0-192)*64+(b1-128)) 128 2 else(0,0))
 else if 224≤b0∧b0<240 then(if 3≤n∧cont b1∧cont b2 then fin (((b0-224)*64+(b1-128))*64+(b2-128)) 2048 3 else(0,0))
 else if 240≤b0∧b0<245 then(if 4≤n∧cont b1∧cont b2∧cont b3 then fin ((((b0-240)*64+(b1-128))*64+(b2-128))*64+(b3-128)) 65536 4 else(0,0))
 else(0,0)
theorem oneR_n (n b0 b1 b2 b3:Nat)(hn:1≤n):(oneR n b0 b1 b2 b3).2≤n:=by
 unfold oneR fin
 repeat' split
 all_goals(simp only;try omega)
theorem oneR_lt (n b0 b1 b2 b3:Nat)(h:(oneR n b0 b1 b2 b3).2≠0):(oneR n b0 b1 b2 b3).1≤1114111∧ ¬ (55296≤(oneR n b0 b1 b2 b3).1∧(oneR n b0 b1 b2 b3).1≤57343):=by
 generalize hp:oneR n b0 b1 b2 b3=p at*;unfold oneR fin at hp
 repeat' split at hp
 all_goals(subst hp;simp only at h ⊢;try omega)
theorem decode_one (n b0 b1 b2 b3:Nat)(h0:b0<256)(h1:b1<256)(h2:b2<256)(h3:b3<256)(hn:1≤n)(h:(oneR n b0 b1 b2 b3).2≠0):Lib.decodeN n b0 b1 b2 b3=oneR n b0 b1 b2 b3:=by
 unfold oneR fin cont at*;unfold Lib.decodeN;by_cases c0:b0<128
 ·simp only[c0,if_true]
 ·simp only[c0,if_false]at h ⊢;by_cases c1:194≤b0∧b0<224
  ·rw[if_pos c1]at h ⊢;by_cases d1:2≤n∧128≤b1∧b1≤191
   ·rw[if_pos d1]at h ⊢;rw[if_pos (by omega)];split at h
    ·simp at h
    ·rename_i f1;rw[if_pos (by omega),if_neg f1];apply Prod.ext<;>simp only<;>omega
   ·rw[if_neg d1]at h;simp at h
  ·rw[if_neg c1]at h ⊢;by_cases c2:224≤b0∧b0<240
   ·rw[if_pos c2]at h ⊢;rw[if_neg (by omega)];by_cases d1:3≤n∧(128≤b1∧b1≤191)∧(128≤b2∧b2≤191)
    ·rw[if_pos d1]at h ⊢;rw[if_pos (by omega)];split at h
     ·simp at h
     ·rename_i f1;rw[if_pos (by omega),if_neg f1];apply Prod.ext<;>simp only<;>omega
    ·rw[if_neg d1]at h;simp at h
   ·rw[if_neg c2]at h ⊢;by_cases c3:240≤b0∧b0<245
    ·rw[if_pos c3]at h ⊢;rw[if_neg (by omega),if_neg (by omega)];by_cases d1:4≤n∧(128≤b1∧b1≤191)∧(128≤b2∧b2≤191)∧(128≤b3∧b3≤191)
     ·rw[if_pos d1]at h ⊢;rw[if_pos (by omega)];split at h
      ·simp at h
      ·rename_i f1;rw[if_pos (by omega),if_neg f1];apply Prod.ext<;>simp only<;>omega
     ·rw[if_neg d1]at h;simp at h
    ·rw[if_neg c3]at h;simp at h
theorem decode_none (n b0 b1 b2 b3:Nat)(h0:b0<256)(h1:b1<256)(h2:b2<256)(h3:b3<256)(hn:1≤n)(h:(oneR n b0 b1 b2 b3).2=0):Lib.decodeN n b0 b1 b2 b3=(65533,1)∧ ¬ (3≤n∧b0=239∧b1=191∧b2=189):=by
 unfold oneR fin cont at h;unfold Lib.decodeN;refine⟨?_,?_⟩
 ·repeat' split at h
  all_goals first | (simp at h;done) | skip
  all_goals(repeat' split)
  all_goals first | rfl | (exfalso;omega)
 ·rintro⟨g0,rfl,rfl,rfl⟩;simp[g0]at h
theorem one_fffd (n b0 b1 b2 b3:Nat)(h0:b0<256)(h1:b1<256)(h2:b2<256)(h3:b3<256)(h:(oneR n b0 b1 b2 b3).2≠0)(hv:(oneR n b0 b1 b2 b3).1=65533):3≤n∧b0=239∧b1=191∧b2=189:=by
 generalize hp:oneR n b0 b1 b2 b3=p at*;unfold oneR fin cont at hp
 repeat' split at hp
 all_goals(subst hp;simp only at h hv;try omega)
def nth (l:List UInt8)(i:Nat):Nat:=(l.getD i 0).toNat
theorem nth_lt (l:List UInt8)(i:Nat):nth l i<256:=by unfold nth;exact(l.getD i 0).toNat_lt
def oneL (l:List UInt8):Nat × Nat:=oneR l.length (nth l 0) (nth l 1) (nth l 2) (nth l 3)
def runesF:Nat→List UInt8→Option (List Int)
 | 0,_=>some []
 | _+1,[]=>some []
 | f+1,b::t=>if(oneL (b::t)).2=0 then none else(runesF f ((b::t).drop (oneL (b::t)).2)).map (((oneL (b::t)).1:Int):: ·)
def runes (l:List UInt8):Option (List Int):=runesF l.length l
theorem runesF_more: ∀ (f g:Nat) (l:List UInt8),l.length≤f→l.length≤g→runesF f l=runesF g l
 | 0,g,l,h,_=>by have:l=[]:=List.eq_nil_of_length_eq_zero (by omega);subst this;cases g<;>rfl
 | f+1,0,l,_,h=>by have:l=[]:=List.eq_nil_of_length_eq_zero (by omega);subst this;rfl
 | f+1,g+1,[],_,_=>rfl
 | f+1,g+1,b::t,h,h'=>by
  unfold runesF;by_cases e:(oneL (b::t)).2=0
  ·rw[if_pos e,if_pos e]
  ·rw[if_neg e,if_neg e,runesF_more f g _ (by simp at h ⊢;omega) (by simp at h' ⊢;omega)]
theorem runes_nil:runes []=some []:=rfl
theorem runes_step (l:List UInt8)(h:l≠[]):runes l=if(oneL l).2=0 then none else(runes (l.drop (oneL l).2)).map (((oneL l).1:Int):: ·):=by
 cases l with
 | nil=>exact absurd rfl h
 | cons b t=>
  have h1:runes (b::t)=if(oneL (b::t)).2=0 then none else(runesF t.length ((b::t).drop (oneL (b::t)).2)).map (((oneL (b::t)).1:Int):: ·):=rfl;rw[h1];unfold runes;by_cases e:(oneL (b::t)).2=0
  ·rw[if_pos e,if_pos e]
  ·rw[if_neg e,if_neg e];rw[runesF_more t.length ((b::t).drop (oneL (b::t)).2).length _ (by rw[List.length_drop];simp only[List.length_cons];omega) (Nat.le_refl _)]
def okR (v:Int):Prop:=0≤v∧v≤1114111∧ ¬ (55296≤v∧v≤57343)
def enc (v:Int):List UInt8:=Lib.encodeRune v
def text (m:List Int):List UInt8:=m.flatMap enc
theorem text_cons (v:Int)(m:List Int):text (v::m)=enc v++text m:=rfl
theorem text_append (a b:List Int):text (a++b)=text a++text b:=List.flatMap_append ..
theorem enc_len (v:Int):1≤(enc v).length∧(enc v).length≤4:=by have:=Lib.runeCells_le v;rw[Lib.runeCells_length]at this;exact this
theorem enc_one {v:Int}(h0:0≤v)(h1:v≤127):enc v=[v.toNat.toUInt8]:=by unfold enc Lib.encodeRune;rw[Lib.encodeRuneZ_one h0 h1];rfl
theorem enc_two {v:Int}(h0:128≤v)(h1:v≤2047):enc v=[(192+v / 64).toNat.toUInt8,(128+v % 64).toNat.toUInt8]:=by unfold enc Lib.encodeRune;rw[Lib.encodeRuneZ_two h0 h1];rfl
theorem enc_three {v:Int}(h:(2048≤v∧v<55296)∨(57343<v∧v≤65535)):enc v=[(224+v / 4096).toNat.toUInt8,(128+v / 64 % 64).toNat.toUInt8,(128+v % 64).toNat.toUInt8]:=by unfold enc Lib.encodeRune;rw[Lib.encodeRuneZ_three h];rfl
theorem enc_four {v:Int}(h0:65536≤v)(h1:v≤1114111):enc v=[(240+v / 262144).toNat.toUInt8,(128+v / 4096 % 64).toNat.toUInt8,(128+v / 64 % 64).toNat.toUInt8,(128+v % 64).toNat.toUInt8]:=by unfold enc Lib.encodeRune;rw[Lib.encodeRuneZ_four h0 h1];rfl
theorem u8z (a:Int)(h0:0≤a)(h1:a<256):(a.toNat.toUInt8).toNat=a.toNat:=by simp;omega
theorem nth_cons (b:UInt8)(t:List UInt8):nth (b::t) 0=b.toNat:=rfl
theorem one_enc (v:Int)(t:List UInt8)(h:okR v):oneL (enc v++t)=(v.toNat,(enc v).length):=by
 obtain⟨h0,h1,h2⟩:=h;by_cases a1:v≤127
 ·rw[enc_one h0 a1];unfold oneL oneR;have e0:nth ([v.toNat.toUInt8]++t) 0=v.toNat:=u8z v h0 (by omega);rw[e0,if_pos (by omega)];rfl
 ·by_cases a2:v≤2047
  ·rw[enc_two (by omega) a2];unfold oneL oneR;have e0:nth ([(192+v / 64).toNat.toUInt8,(128+v % 64).toNat.toUInt8]++t) 0=(192+v / 64).toNat:=u8z _ (by omega) (by omega);have e1:nth ([(192+v / 64).toNat.toUInt8,(128+v % 64).toNat.toUInt8]++t) 1=(128+v % 64).toNat:=u8z _ (by omega) (by omega);rw[e0,e1,if_neg (by omega),if_pos (by omega),if_pos ⟨by simp,by unfold cont;omega⟩];unfold fin;rw[if_neg (by omega)];apply Prod.ext
   ·show _=v.toNat;simp only;omega
   ·rfl
  ·by_cases a3:v≤65535
   ·rw[enc_three (by omega)];unfold oneL oneR;have e0:nth ([(224+v / 4096).toNat.toUInt8,(128+v / 64 % 64).toNat.toUInt8,(128+v % 64).toNat.toUInt8]++t) 0=(224+v / 4096).toNat:=u8z _ (by omega) (by omega);have e1:nth ([(224+v / 4096).toNat.toUInt8,(128+v / 64 % 64).toNat.toUInt8,(128+v % 64).toNat.toUInt8]++t) 1=(128+v / 64 % 64).toNat:=u8z _ (by omega) (by omega);have e2:nth ([(224+v / 4096).toNat.toUInt8,(128+v / 64 % 64).toNat.toUInt8,(128+v % 64).toNat.toUInt8]++t) 2=(128+v % 64).toNat:=u8z _ (by omega) (by omega);rw[e0,e1,e2,if_neg (by omega),if_neg (by omega),if_pos (by omega),if_pos ⟨by simp,by unfold cont;omega,by unfold cont;omega⟩];unfold fin;rw[if_neg (by omega)];apply Prod.ext
    ·show _=v.toNat;simp only;omega
    ·rfl
   ·rw[enc_four (by omega) h1];unfold oneL oneR;have e0:nth ([(240+v / 262144).toNat.toUInt8,(128+v / 4096 % 64).toNat.toUInt8,(128+v / 64 % 64).toNat.toUInt8,(128+v % 64).toNat.toUInt8]++t) 0=(240+v / 262144).toNat:=u8z _ (by omega) (by omega);have e1:nth ([(240+v / 262144).toNat.toUInt8,(128+v / 4096 % 64).toNat.toUInt8,(128+v / 64 % 64).toNat.toUInt8,(128+v % 64).toNat.toUInt8]++t) 1=(128+v / 4096 % 64).toNat:=u8z _ (by omega) (by omega);have e2:nth ([(240+v / 262144).toNat.toUInt8,(128+v / 4096 % 64).toNat.toUInt8,(128+v / 64 % 64).toNat.toUInt8,(128+v % 64).toNat.toUInt8]++t) 2=(128+v / 64 % 64).toNat:=u8z _ (by omega) (by omega);have e3:nth ([(240+v / 262144).toNat.toUInt8,(128+v / 4096 % 64).toNat.toUInt8,(128+v / 64 % 64).toNat.toUInt8,(128+v % 64).toNat.toUInt8]++t) 3=(128+v % 64).toNat:=u8z _ (by omega) (by omega);rw[e0,e1,e2,e3,if_neg (by omega),if_neg (by omega),if_neg (by omega),if_pos (by omega),if_pos ⟨by simp,by unfold cont;omega,by unfold cont;omega,by unfold cont;omega⟩];unfold fin;rw[if_neg (by omega)];apply Prod.ext
    ·show _=v.toNat;simp only;omega
    ·rfl
theorem ex1 {b:UInt8}{l:List UInt8}{n:Nat}(hn:2≤n)(h:n≤(b::l).length): ∃c t,l=c::t:=by
 cases l with
 | nil=>simp at h;omega
 | cons c t=>exact⟨c,t,rfl⟩
theorem u8_of (b:UInt8)(n:Nat)(h:n=b.toNat):n.toUInt8=b:=by subst h;simp
theorem enc_of_one (l:List UInt8)(h:(oneL l).2≠0)(hl:l≠[]):l.take (oneL l).2=enc ((oneL l).1:Int):=by
 match l,hl with
 | b0::l1,_=>
 have hb0:=b0.toNat_lt;unfold oneL oneR at h ⊢;rw[nth_cons]at h ⊢;by_cases c0:b0.toNat<128
 ·simp only[c0,if_true];rw[enc_one (by omega) (by omega)];show[b0]=_;rw[u8_of b0 _ (by simp)]
 ·simp only[c0,if_false]at h ⊢;by_cases c1:194≤b0.toNat∧b0.toNat<224
  ·rw[if_pos c1]at h ⊢;split at h
   ·rename_i d1;rw[if_pos d1];unfold fin at h ⊢;split at h
    ·simp at h
    ·rename_i f1;rw[if_neg f1];obtain⟨d2,d3⟩:=d1;obtain⟨b1,l2,rfl⟩:=ex1 (n:=2) (by omega) d2;have e1:nth (b0::b1::l2) 1=b1.toNat:=rfl;rw[e1]at d3 f1 ⊢;unfold cont at d3;rw[enc_two (by omega) (by omega)];show[b0,b1]=_;rw[u8_of b0 _ (by omega),u8_of b1 _ (by omega)]
   ·simp at h
  ·rw[if_neg c1]at h ⊢;by_cases c2:224≤b0.toNat∧b0.toNat<240
   ·rw[if_pos c2]at h ⊢;split at h
    ·rename_i d1;rw[if_pos d1];unfold fin at h ⊢;split at h
     ·simp at h
     ·rename_i f1;rw[if_neg f1];obtain⟨d2,d3,d4⟩:=d1;obtain⟨b1,l2',rfl⟩:=ex1 (n:=3) (by omega) d2;obtain⟨b2,l2,rfl⟩:=ex1 (b:=b1) (l:=l2') (n:=2) (by omega) (by simp only[List.length_cons]at d2 ⊢;omega);have e1:nth (b0::b1::b2::l2) 1=b1.toNat:=rfl;have e2:nth (b0::b1::b2::l2) 2=b2.toNat:=rfl;rw[e1]at d3 f1 ⊢;rw[e2]at d4 f1 ⊢;unfold cont at d3 d4;rw[enc_three (by omega)];show[b0,b1,b2]=_;rw[u8_of b0 _ (by omega),u8_of b1 _ (by omega),u8_of b2 _ (by omega)]
    ·simp at h
   ·rw[if_neg c2]at h ⊢;by_cases c3:240≤b0.toNat∧b0.toNat<245
    ·rw[if_pos c3]at h ⊢;split at h
     ·rename_i d1;rw[if_pos d1];unfold fin at h ⊢;split at h
      ·simp at h
      ·rename_i f1;rw[if_neg f1];obtain⟨d2,d3,d4,d5⟩:=d1;obtain⟨b1,l2',rfl⟩:=ex1 (n:=4) (by omega) d2;obtain⟨b2,l2'',rfl⟩:=ex1 (b:=b1) (l:=l2') (n:=3) (by omega) (by simp only[List.length_cons]at d2 ⊢;omega);obtain⟨b3,l2,rfl⟩:=ex1 (b:=b2) (l:=l2'') (n:=2) (by omega) (by simp only[List.length_cons]at d2 ⊢;omega);have e1:nth (b0::b1::b2::b3::l2) 1=b1.toNat:=rfl;have e2:nth (b0::b1::b2::b3::l2) 2=b2.toNat:=rfl;have e3:nth (b0::b1::b2::b3::l2) 3=b3.toNat:=rfl;rw[e1]at d3 f1 ⊢;rw[e2]at d4 f1 ⊢;rw[e3]at d5 f1 ⊢;unfold cont at d3 d4 d5;rw[enc_four (by omega) (by omega)];show[b0,b1,b2,b3]=_;rw[u8_of b0 _ (by omega),u8_of b1 _ (by omega),u8_of b2 _ (by omega),u8_of b3 _ (by omega)]
     ·simp at h
    ·rw[if_neg c3]at h;simp at h
theorem one_ok (l:List UInt8)(h:(oneL l).2≠0):okR ((oneL l).1:Int):=by obtain⟨h1,h2⟩:=oneR_lt _ _ _ _ _ h;exact⟨by omega,by unfold oneL;omega,by unfold oneL;omega⟩
theorem runes_text: ∀ (n:Nat) (l:List UInt8) (m:List Int),l.length≤n→runes l=some m→text m=l∧ ∀v∈m,okR v
 | 0,l,m,hn,h=>by have:l=[]:=List.eq_nil_of_length_eq_zero (by omega);subst this;rw[runes_nil]at h;cases h;exact⟨rfl,by simp⟩
 | n+1,l,m,hn,h=>by
  by_cases hl:l=[]
  ·subst hl;rw[runes_nil]at h;cases h;exact⟨rfl,by simp⟩
  ·rw[runes_step l hl]at h;by_cases e:(oneL l).2=0
   ·rw[if_pos e]at h;cases h
   ·rw[if_neg e]at h;obtain⟨m',hm,rfl⟩:=Option.map_eq_some_iff.1 h;obtain⟨i1,i2⟩:=runes_text n _ m' (by rw[List.length_drop];omega) hm;refine⟨?_,?_⟩
    ·rw[text_cons,i1,←enc_of_one l e hl,List.take_append_drop]
    ·intro v hv;rcases List.mem_cons.1 hv with rfl | hv
     ·exact one_ok l e
     ·exact i2 v hv
theorem runes_of: ∀ (m:List Int) (t:List UInt8),(∀v∈m,okR v)→runes (text m++t)=(runes t).map (m++ ·)
 | [],t,_=>by show runes t=_;cases runes t<;>rfl
 | v::m,t,h=>by
  have hv:=h v (by simp);have he:=enc_len v;have h1:=one_enc v (text m++t) hv;have hne:text (v::m)++t≠[]:=by rw[text_cons];intro e;have:=congrArg List.length e;rw[List.length_append,List.length_append,List.length_nil]at this;omega
  rw[runes_step _ hne,text_cons,List.append_assoc,h1];rw[if_neg (by show¬ (enc v).length=0;omega)];show(runes ((enc v++(text m++t)).drop (enc v).length)).map _=_;rw[List.drop_left,runes_of m t (fun u hu=>h u (by simp[hu]))];cases runes t with
  | none=>rfl
  | some x=>show some _=some _;congr 1;show((v.toNat:Int)::(m++x))=v::m++x;rw[Int.toNat_of_nonneg hv.1];rfl
theorem runes_back (m:List Int)(h: ∀v∈m,okR v):runes (text m)=some m:=by have:=runes_of m [] h;rw[List.append_nil,runes_nil]at this;simpa using this
theorem text_len (m:List Int):m.length≤(text m).length:=by
 induction m with
 | nil=>simp
 | cons v m ih=>have:=enc_len v;rw[text_cons,List.length_append,List.length_cons];omega
theorem runes_len {l:List UInt8}{m:List Int}(h:runes l=some m):m.length≤l.length:=by obtain⟨h1,_⟩:=runes_text _ l m (Nat.le_refl _) h;rw[←h1];exact text_len m
theorem get_nth (s:ByteArray)(i k:Nat):(s.get! (i+k)).toNat=nth (s.data.toList.drop i) k:=by
 unfold nth;have:s.get! (i+k)=s.data[i+k]! :=rfl;rw[this,List.getD_eq_getElem?_getD,List.getElem?_drop,Array.getElem?_toList];by_cases h:i+k<s.data.size
 ·rw[getElem!_pos s.data (i+k) h,Array.getElem?_eq_getElem h];rfl
 ·rw[getElem!_neg s.data (i+k) h,Array.getElem?_eq_none (by omega)];rfl
theorem decode_list (s:ByteArray)(i:Nat):Utf8.decode s i=Lib.decodeN (s.data.toList.drop i).length (nth (s.data.toList.drop i) 0) (nth (s.data.toList.drop i) 1) (nth (s.data.toList.drop i) 2) (nth (s.data.toList.drop i) 3):=by rw[Lib.decode_at];have h0:=get_nth s i 0;rw[Nat.add_zero]at h0;rw[h0,get_nth,get_nth,get_nth];congr 1;simp
theorem decode_yes (s:ByteArray)(i:Nat)(hi:i<s.size)(h:(oneL (s.data.toList.drop i)).2≠0):Utf8.decode s i=oneL (s.data.toList.drop i):=by
 have:s.data.toList.length=s.size:=by simp
 rw[decode_list];exact decode_one _ _ _ _ _ (nth_lt _ _) (nth_lt _ _) (nth_lt _ _) (nth_lt _ _) (by rw[List.length_drop];omega) h
def fffd (l:List UInt8):Prop:=3≤l.length∧nth l 0=239∧nth l 1=191∧nth l 2=189
theorem decode_no (s:ByteArray)(i:Nat)(hi:i<s.size)(h:(oneL (s.data.toList.drop i)).2=0):Utf8.decode s i=(65533,1)∧ ¬fffd (s.data.toList.drop i):=by
 have:s.data.toList.length=s.size:=by simp
 rw[decode_list];exact decode_none _ _ _ _ _ (nth_lt _ _) (nth_lt _ _) (nth_lt _ _) (nth_lt _ _) (by rw[List.length_drop];omega) h
theorem fffd_yes (l:List UInt8)(h:(oneL l).2≠0)(hv:(oneL l).1=65533):fffd l:=one_fffd _ _ _ _ _ (nth_lt _ _) (nth_lt _ _) (nth_lt _ _) (nth_lt _ _) h hv
theorem fffd_prefix (l:List UInt8):fffd l↔[239,191,189]<+:l:=by
 constructor
 ·rintro⟨h0,h1,h2,h3⟩
  match l,h0 with
  | a::b::c::t,_=>
  have e1:a=239:=UInt8.toNat_inj.1 h1;have e2:b=191:=UInt8.toNat_inj.1 h2;have e3:c=189:=UInt8.toNat_inj.1 h3;subst e1 e2 e3;exact⟨t,rfl⟩
 ·rintro⟨t,rfl⟩;exact⟨by simp,rfl,rfl,rfl⟩
theorem one_width (l:List UInt8)(hl:l≠[]):(oneL l).2≤l.length:=by refine oneR_n _ _ _ _ _ ?_;have:=List.length_pos_iff.2 hl;omega
end run
namespace prp
open run
section
variable {α : Type} [DecidableEq α]
def headNe (b:α):List α→Bool
 | []=>false
 | x::_=>decide (x≠b)
def sq (b:α):Bool→List α→List α
 | _,[]=>[]
 | st,x::t=>if x≠b then x::sq b true t else if st=true∧headNe b t=true then x::sq b true t else sq b st t
def pieces (b:α):List α→List (List α)
 | []=>[[]]
 | x::t=>if x=b then[]::pieces b t else match pieces b t with
  | []=>[[x]]
  | p::r=>(x::p)::r
theorem pieces_ne (b:α)(l:List α): ∃p r,pieces b l=p::r:=by
 cases l with
 | nil=>exact⟨_,_,rfl⟩
 | cons x t=>
  unfold pieces;split
  ·exact⟨_,_,rfl⟩
  ·split<;>exact⟨_,_,rfl⟩
theorem pieces_ne_cons (b x:α)(t p:List α)(r:List (List α))(h:x≠b)(hp:pieces b t=p::r):pieces b (x::t)=(x::p)::r:=by rw[pieces,if_neg h,hp]
theorem sq_ne (b x:α)(st:Bool)(t:List α)(h:x≠b):sq b st (x::t)=x::sq b true t:=by rw[sq,if_pos h]
theorem sq_on (b:α)(t:List α)(h:headNe b t=true):sq b true (b::t)=b::sq b true t:=by rw[sq,if_neg (by simp),if_pos ⟨rfl,h⟩]
theorem sq_off (b:α)(st:Bool)(t:List α)(h: ¬ (st=true∧headNe b t=true)):sq b st (b::t)=sq b st t:=by rw[sq,if_neg (by simp),if_neg h]
theorem sq_run (b:α): ∀ (xs t:List α) (st:Bool),xs≠[]→(∀x∈xs,x≠b)→sq b st (xs++t)=xs++sq b true t
 | [],_,_,h,_=>absurd rfl h
 | [x],t,st,_,h=>sq_ne b x st t (h x (by simp))
 | x::y::ys,t,st,_,h=>by rw[List.cons_append,sq_ne b x st _ (h x (by simp)),sq_run b (y::ys) t true (by simp) (fun z hz=>h z (by simp at hz ⊢;right;exact hz))];rfl
theorem sq_len (b:α): ∀ (l:List α) (st:Bool),(sq b st l).length≤l.length
 | [],_=>by simp[sq]
 | x::t,st=>by
  have h1:=sq_len b t true;have h2:=sq_len b t st;unfold sq
  repeat' split
  all_goals(simp;try omega)
theorem sq_mem (b:α): ∀ (l:List α) (st:Bool) (x:α),x∈sq b st l→x∈l
 | [],_,x,h=>by simp[sq]at h
 | y::t,st,x,h=>by
  unfold sq at h
  repeat' split at h
  ·rcases List.mem_cons.1 h with rfl | h
   ·simp
   ·exact List.mem_cons_of_mem _ (sq_mem b t _ x h)
  ·rcases List.mem_cons.1 h with rfl | h
   ·simp
   ·exact List.mem_cons_of_mem _ (sq_mem b t _ x h)
  ·exact List.mem_cons_of_mem _ (sq_mem b t _ x h)
theorem headNe_sq (b:α): ∀l:List α,headNe b l=true→headNe b (sq b true l)=true
 | [],h=>by simp[headNe]at h
 | x::t,h=>by
  have hx:x≠b:=by simpa[headNe]using h
  rw[sq_ne b x true t hx];simpa[headNe]using hx
theorem sq_sq (b:α): ∀ (l:List α) (st:Bool),sq b st (sq b st l)=sq b st l
 | [],_=>by simp[sq]
 | x::t,st=>by
  by_cases hx:x=b
  ·subst hx;by_cases hh:st=true∧headNe x t=true
   ·obtain⟨rfl,hh⟩:=hh;rw[sq_on x t hh,sq_on x _ (headNe_sq x t hh),sq_sq x t true]
   ·rw[sq_off x st t hh,sq_sq x t st]
  ·rw[sq_ne b x st t hx,sq_ne b x st _ hx,sq_sq b t true]
theorem filter_sq (b:α)(p:α→Bool)(hp:p b=false): ∀ (l:List α) (st:Bool),(sq b st l).filter p=l.filter p
 | [],_=>by simp[sq]
 | x::t,st=>by
  have h1:=filter_sq b p hp t true;have h2:=filter_sq b p hp t st;by_cases hx:x=b
  ·subst hx;by_cases hh:st=true∧headNe x t=true
   ·obtain⟨rfl,hh⟩:=hh;rw[sq_on x t hh,List.filter_cons,List.filter_cons,h1]
   ·rw[sq_off x st t hh,h2,List.filter_cons,hp];rfl
  ·rw[sq_ne b x st t hx,List.filter_cons,List.filter_cons,h1]
theorem sq_map (b:α)(f:α→α): ∀ (l:List α) (st:Bool),(∀x∈l,(f x=b↔x=b))→sq b st (l.map f)=(sq b st l).map f
 | [],_,_=>by simp[sq]
 | x::t,st,h=>by
  have hx:=h x (by simp);have ht: ∀y∈t,(f y=b↔y=b):=fun y hy=>h y (by simp[hy]);have hh:headNe b (t.map f)=headNe b t:=by
   cases t with
   | nil=>rfl
   | cons y t=>
    have:=h y (by simp);simp only[List.map_cons,headNe];by_cases e:y=b
    ·have e2:=this.2 e;simp only[e,e2,ne_eq,not_true_eq_false,decide_false];rw[←e,e2,e];simp
    ·have e2:f y≠b:=fun e2=>e (this.1 e2);simp[e,e2]
  rw[List.map_cons];by_cases e:x=b
  ·subst e;have e2:=hx.2 rfl;rw[e2];by_cases h2:st=true∧headNe x t=true
   ·obtain⟨rfl,h2⟩:=h2;rw[sq_on x t h2,sq_on x _ (by rw[hh];exact h2),sq_map x f t true ht,List.map_cons,e2]
   ·rw[sq_off x st t h2,sq_off x st _ (by rw[hh];exact h2),sq_map x f t st ht]
  ·rw[sq_ne b x st t e,sq_ne b (f x) st _ (fun e2=>e (hx.1 e2)),sq_map b f t true ht,List.map_cons]
end
def joinT (b:UInt8)(r:List (List UInt8)):List UInt8:=Lib.joinTail [b] r
theorem sq_true_pieces (b:UInt8): ∀ (l p:List UInt8) (r:List (List UInt8)),pieces b l=p::r→sq b true l=p++Lib.joinTail [b] (r.filter (· ≠[]))
 | [],p,r,h=>by simp only[pieces,List.cons.injEq]at h;obtain⟨rfl,rfl⟩:=h;simp[sq,Lib.joinTail]
 | x::t,p,r,h=>by
  obtain⟨p',r',h'⟩:=pieces_ne b t;have ih:=sq_true_pieces b t p' r' h';by_cases hx:x=b
  ·subst hx;rw[pieces,if_pos rfl,h']at h;simp only[List.cons.injEq]at h;obtain⟨rfl,rfl⟩:=h;cases t with
   | nil=>simp only[pieces,List.cons.injEq]at h';obtain⟨rfl,rfl⟩:=h';simp[sq,headNe,Lib.joinTail]
   | cons y t=>
    by_cases hy:y=x
    ·subst hy;rw[pieces,if_pos rfl]at h';simp only[List.cons.injEq]at h';obtain⟨rfl,rfl⟩:=h';rw[sq_off y true _ (by simp[headNe]),ih];simp
    ·rw[sq_on x _ (by simp[headNe,hy]),ih];clear ih;obtain⟨p2,r2,h2⟩:=pieces_ne x t;rw[pieces_ne_cons x y t p2 r2 hy h2]at h';simp only[List.cons.injEq]at h';obtain⟨rfl,rfl⟩:=h';simp[Lib.joinTail]
  ·rw[pieces_ne_cons b x t p' r' hx h']at h;simp only[List.cons.injEq]at h;obtain⟨rfl,rfl⟩:=h;rw[sq_ne b x true t hx,ih];rfl
theorem sq_pieces (b:UInt8): ∀ (l:List UInt8),sq b false l=Lib.join ((pieces b l).filter (· ≠[])) [b]
 | []=>by simp[sq,pieces,Lib.join_nil]
 | x::t=>by
  obtain⟨p',r',h'⟩:=pieces_ne b t;by_cases hx:x=b
  ·subst hx;have hp:pieces x (x::t)=[]::pieces x t:=(by rw[pieces,if_pos rfl]);rw[sq_off x false t (by simp),hp,sq_pieces x t];simp
  ·rw[sq_ne b x false t hx,pieces_ne_cons b x t p' r' hx h',sq_true_pieces b t p' r' h'];rw[show((x::p')::r').filter (· ≠[])=(x::p')::r'.filter (· ≠[])from by simp,Lib.join_cons];rfl
theorem pieces_no (c:UInt8): ∀l:List UInt8,c∉l→pieces c l=[l]
 | [],_=>rfl
 | x::t,h=>by simp only[List.mem_cons,not_or]at h;exact pieces_ne_cons c x t t [] (Ne.symm h.1) (pieces_no c t h.2)
theorem pieces_at (c:UInt8): ∀ (a t:List UInt8),c∉a→pieces c (a++c::t)=a::pieces c t
 | [],t,_=>by rw[List.nil_append,pieces,if_pos rfl]
 | x::a,t,h=>by simp only[List.mem_cons,not_or]at h;exact pieces_ne_cons c x _ a (pieces c t) (Ne.symm h.1) (pieces_at c a t h.2)
theorem index_one (c:UInt8): ∀l:List UInt8,(Lib.index l [c]= -1∧c∉l)∨ ∃a t,l=a++c::t∧c∉a∧Lib.index l [c]=(a.length:Int)
 | []=>Or.inl ⟨by simp[Lib.index],by simp⟩
 | x::t=>by
  by_cases hx:x=c
  ·subst hx;exact Or.inr ⟨[],t,rfl,by simp,by rw[Lib.index];simp[List.isPrefixOf]⟩
  ·have hp:([c]:List UInt8).isPrefixOf (x::t)=false:=(by simp[List.isPrefixOf,Ne.symm hx]);have hix:Lib.index (x::t) [c]=if Lib.index t [c]== -1 then-1 else Lib.index t [c]+1:=(by rw[Lib.index,hp];simp);rcases index_one c t with⟨h1,h2⟩ | ⟨a,r,rfl,h2,h3⟩
   ·refine Or.inl ⟨by rw[hix,h1];rfl,by simp[h2,Ne.symm hx]⟩
   ·refine Or.inr ⟨x::a,r,rfl,by simp[h2,Ne.symm hx],?_⟩;rw[hix,h3,if_neg (by simp)];simp
theorem splitK_pieces (c:UInt8): ∀ (k:Nat) (l:List UInt8),l.count c=k→Lib.splitK [c] 0 k l=pieces c l
 | 0,l,h=>by rw[pieces_no c l (List.count_eq_zero.1 h)];rfl
 | k+1,l,h=>by
  rcases index_one c l with⟨h1,h2⟩ | ⟨a,t,rfl,h2,h3⟩
  ·rw[List.count_eq_zero.2 h2]at h;omega
  ·rw[Lib.splitK,if_neg (by rw[h3];simp),h3,pieces_at c a t h2];have ht:t.count c=k:=(by rw[List.count_append,List.count_cons_self,List.count_eq_zero.2 h2]at h;omega);rw[show((a.length:Int).toNat+0)=a.length from by omega,List.take_left,show((a.length:Int).toNat+[c].length)=a.length+1 from by simp];rw[show(a++c::t).drop (a.length+1)=t from by rw[show a++c::t=(a++[c])++t from by simp,show a.length+1=(a++[c]).length from by simp,List.drop_left]];rw[splitK_pieces c k t ht]
theorem replaceK_filter (c:UInt8): ∀ (k:Nat) (l:List UInt8),l.count c=k→Lib.replaceK [c] [] k l=l.filter (· ≠c)
 | 0,l,h=>by have:=List.count_eq_zero.1 h;show l=_;rw[List.filter_eq_self.2];intro x hx;simp only[ne_eq,decide_not,Bool.not_eq_true',decide_eq_false_iff_not];rintro rfl;exact this hx
 | k+1,l,h=>by
  rcases index_one c l with⟨h1,h2⟩ | ⟨a,t,rfl,h2,h3⟩
  ·rw[List.count_eq_zero.2 h2]at h;omega
  ·rw[Lib.replaceK_hit [c] [] k _ a.length h3];have ht:t.count c=k:=(by rw[List.count_append,List.count_cons_self,List.count_eq_zero.2 h2]at h;omega);have ha:=replaceK_filter c 0 a (List.count_eq_zero.2 h2);rw[List.take_left,show(a++c::t).drop (a.length+[c].length)=t from by rw[show a++c::t=(a++[c])++t from by simp,show a.length+[c].length=(a++[c]).length from by simp,List.drop_left]];rw[replaceK_filter c k t ht,List.filter_append,←ha];simp[Lib.replaceK]
theorem replaceAll_filter (c:UInt8)(l:List UInt8):Lib.replaceAll l [c] []=l.filter (· ≠c):=by unfold Lib.replaceAll Lib.replace Lib.replaceNum;rw[if_neg (by simp),if_pos (Or.inl (by decide)),Lib.count_one,replaceK_filter c _ l rfl]
def dropB (r:Int):Bool:=decide (r≤8∨(14≤r∧r≤31)∨(127≤r∧r≤132)∨(134≤r∧r≤159)∨r=173∨(8203≤r∧r≤8207)∨r=65279)
def blankB (r:Int):Bool:=decide ((9≤r∧r≤13)∨r=32∨r=133∨r=160∨r=5760∨(8192≤r∧r≤8202)∨r=8232∨r=8233∨r=8239∨r=8287∨r=12288)
def smallI (r:Int):Int:=if(65≤r∧r≤90)∨(192≤r∧r≤222∧r≠215)∨(913≤r∧r≤937∧r≠930)∨(1040≤r∧r≤1071)then r+32 else if 1024≤r∧r≤1039 then r+80 else r
def mapR (fold:Bool)(r:Int):Int:=if blankB r=true then 32 else if fold=true then smallI r else r
def mapped (fold:Bool)(m:List Int):List Int:=(m.filter (fun r=> !dropB r)).map (mapR fold)
theorem mapped_append (fold:Bool)(a b:List Int):mapped fold (a++b)=mapped fold a++mapped fold b:=by unfold mapped;rw[List.filter_append,List.map_append]
theorem smallI_ok {r:Int}(h:okR r):okR (smallI r):=by
 unfold smallI okR at*
 repeat' split
 all_goals omega
theorem mapR_ok {fold:Bool}{r:Int}(h:okR r):okR (mapR fold r):=by
 unfold mapR
 repeat' split
 ·unfold okR;omega
 ·exact smallI_ok h
 ·exact h
theorem mapped_ok {fold:Bool}{m:List Int}(h: ∀v∈m,okR v): ∀v∈mapped fold m,okR v:=by intro v hv;obtain⟨u,hu,rfl⟩:=List.mem_map.1 hv;exact mapR_ok (h u (List.mem_filter.1 hu).1)
theorem small_small (r:Int):smallI (smallI r)=smallI r:=by
 unfold smallI
 repeat' split
 all_goals omega
theorem small_keep {r:Int}(h1:dropB r=false)(h2:blankB r=false):dropB (smallI r)=false∧blankB (smallI r)=false:=by
 unfold dropB blankB at*;simp only[decide_eq_false_iff_not]at*;unfold smallI
 repeat' split
 all_goals(constructor<;>omega)
theorem mapR_mapR (fold g:Bool)(r:Int)(hd:dropB r=false):mapR g (mapR fold r)=mapR (fold||g) r∧dropB (mapR fold r)=false:=by
 by_cases hb:blankB r=true
 ·have h1:mapR fold r=32:=by unfold mapR;rw[if_pos hb]
  have h2:mapR (fold||g) r=32:=by unfold mapR;rw[if_pos hb]
  rw[h1,h2];exact⟨by unfold mapR;rw[if_pos (by decide)],by decide⟩
 ·have hb':blankB r=false:=by simpa using hb
  obtain⟨k1,k2⟩:=small_keep hd hb';cases fold with
  | false=>have h1:mapR false r=r:=(by unfold mapR;rw[if_neg hb];simp);rw[h1];exact⟨by simp,hd⟩
  | true=>
   have h1:mapR true r=smallI r:=(by unfold mapR;rw[if_neg hb];simp);rw[h1];refine⟨?_,k1⟩;unfold mapR;rw[if_neg (by rw[k2];simp)];cases g with
   | true=>simp only[if_true,Bool.or_true,small_small];rw[if_neg hb]
   | false=>simp only[Bool.or_false,if_true];rw[if_neg hb];simp
theorem mapped_mapped (fold g:Bool)(m:List Int):mapped g (mapped fold m)=mapped (fold||g) m:=by
 induction m with
 | nil=>rfl
 | cons r m ih=>
  unfold mapped at*;by_cases hd:dropB r=true
  ·simp only[List.filter_cons,hd,Bool.not_true,Bool.false_eq_true,if_false];exact ih
  ·have hd':dropB r=false:=(by simpa using hd);obtain⟨h1,h2⟩:=mapR_mapR fold g r hd';simp only[List.filter_cons,hd',Bool.not_false,if_true,List.map_cons,h2,h1,ih]
theorem mapped_sq (g:Bool): ∀ (l:List Int) (st:Bool),(∀x∈l,dropB x=false)→(∀x∈l,blankB x=true→x=32)→mapped g (sq 32 st l)=sq 32 st (mapped g l)
 | l,st,h1,h2=>by
  have hf: ∀k:List Int,(∀x∈k,x∈l)→mapped g k=k.map (mapR g):=by intro k hk;unfold mapped;rw[List.filter_eq_self.2];intro x hx;rw[h1 x (hk x hx)];rfl
  rw[hf _ (fun x hx=>sq_mem 32 l st x hx),hf l (fun x hx=>hx),sq_map];intro x hx;have hd:=h1 x hx;have hb:=h2 x hx;constructor
  ·intro e;by_cases hb':blankB x=true
   ·exact hb hb'
   ·exfalso;have hb2:blankB x=false:=(by simpa using hb');obtain⟨k1,k2⟩:=small_keep hd hb2;unfold mapR at e;rw[if_neg hb']at e;split at e
    ·rw[e]at k2;revert k2;decide
    ·rw[e]at hb2;revert hb2;decide
  ·rintro rfl;unfold mapR;rw[if_pos (by decide)]
theorem mapped_keeps (fold:Bool)(m:List Int):(∀x∈mapped fold m,dropB x=false)∧(∀x∈mapped fold m,blankB x=true→x=32):=by
 constructor
 ·intro x hx;obtain⟨r,hr,rfl⟩:=List.mem_map.1 hx;exact(mapR_mapR fold fold r (by have:=(List.mem_filter.1 hr).2;simpa using this)).2
 ·intro x hx hb;obtain⟨r,hr,rfl⟩:=List.mem_map.1 hx;have hd:dropB r=false:=by have:=(List.mem_filter.1 hr).2;simpa using this
  by_cases h:blankB r=true
  ·unfold mapR;rw[if_pos h]
  ·have h':blankB r=false:=(by simpa using h);obtain⟨k1,k2⟩:=small_keep hd h';exfalso;unfold mapR at hb;rw[if_neg h]at hb;split at hb
   ·rw[k2]at hb;simp at hb
   ·exact h hb
def readyR (fold:Bool)(m:List Int):List Int:=sq 32 false (mapped fold m)
theorem ready_ready (fold g:Bool)(m:List Int):readyR g (readyR fold m)=readyR (fold||g) m:=by unfold readyR;rw[mapped_sq g _ _ (mapped_keeps fold m).1 (mapped_keeps fold m).2,mapped_mapped,sq_sq]
theorem ready_ok {fold:Bool}{m:List Int}(h: ∀v∈m,okR v): ∀v∈readyR fold m,okR v:=fun v hv=>mapped_ok h v (sq_mem _ _ _ v hv)
theorem enc_ascii {v:Int}(h:okR v){c:Int}(h0:0≤c)(h1:c<128)(hx:c.toNat.toUInt8∈enc v):v=c:=by
 obtain⟨a0,a1,a2⟩:=h;have key: ∀z:Int,0≤z→z<256→c.toNat.toUInt8=z.toNat.toUInt8→z=c:=by intro z z0 z1 e;have:=congrArg UInt8.toNat e;rw[u8z c h0 (by omega),u8z z z0 z1]at this;omega
 by_cases b1:v≤127
 ·rw[enc_one a0 b1]at hx;simp only[List.mem_singleton]at hx;exact key v a0 (by omega) hx
 ·exfalso;by_cases b2:v≤2047
  ·rw[enc_two (by omega) b2]at hx;simp only[List.mem_cons,List.not_mem_nil,or_false]at hx;rcases hx with hx | hx
   ·have:=key _ (by omega) (by omega) hx;omega
   ·have:=key _ (by omega) (by omega) hx;omega
  ·by_cases b3:v≤65535
   ·rw[enc_three (by omega)]at hx;simp only[List.mem_cons,List.not_mem_nil,or_false]at hx;rcases hx with hx | hx | hx
    all_goals(have:=key _ (by omega) (by omega) hx;omega)
   ·rw[enc_four (by omega) a1]at hx;simp only[List.mem_cons,List.not_mem_nil,or_false]at hx;rcases hx with hx | hx | hx | hx
    all_goals(have:=key _ (by omega) (by omega) hx;omega)
theorem enc_no32 {v:Int}(h:okR v)(hv:v≠32): ∀x∈enc v,x≠32:=by rintro x hx rfl;exact hv (enc_ascii h (c:=32) (by omega) (by omega) hx)
theorem headNe_text {m:List Int}(h: ∀v∈m,okR v):headNe (32:UInt8) (text m)=headNe 32 m:=by
 cases m with
 | nil=>rfl
 | cons v m=>
  have hl:=enc_len v;rw[text_cons];by_cases hv:v=32
  ·subst hv;rfl
  ·have hn:=enc_no32 (h v (by simp)) hv;cases he:enc v with
   | nil=>rw[he]at hl;simp at hl
   | cons x t=>rw[he]at hn;have:=hn x (by simp);simp[headNe,hv,this]
theorem sq_text: ∀ (m:List Int) (st:Bool),(∀v∈m,okR v)→sq (32:UInt8) st (text m)=text (sq 32 st m)
 | [],_,_=>rfl
 | v::m,st,h=>by
  have hm: ∀u∈m,okR u:=fun u hu=>h u (by simp[hu]);have hl:=enc_len v;by_cases hv:v=32
  ·subst hv;have e1:text (32::m)=(32:UInt8)::text m:=rfl;rw[e1];by_cases h2:st=true∧headNe 32 m=true
   ·obtain⟨rfl,h2⟩:=h2;rw[sq_on 32 m h2,sq_on 32 (text m) (by rw[headNe_text hm];exact h2),sq_text m true hm];rfl
   ·rw[sq_off 32 st m h2,sq_off 32 st (text m) (by rw[headNe_text hm];exact h2),sq_text m st hm]
  ·rw[sq_ne 32 v st m hv,text_cons,text_cons,sq_run 32 (enc v) (text m) st (by intro e;rw[e]at hl;simp at hl) (enc_no32 (h v (by simp)) hv),sq_text m true hm]
theorem filter_text (c:Int)(h0:0≤c)(h1:c<128): ∀m:List Int,(∀v∈m,okR v)→(text m).filter (· ≠c.toNat.toUInt8)=text (m.filter (· ≠c))
 | [],_=>rfl
 | v::m,h=>by
  have ih:=filter_text c h0 h1 m (fun u hu=>h u (by simp[hu]));rw[text_cons,List.filter_append,ih];by_cases hv:v=c
  ·subst hv;rw[enc_one h0 (by omega)];simp
  ·have he:(enc v).filter (· ≠c.toNat.toUInt8)=enc v:=(by refine List.filter_eq_self.2 ?_;intro x hx;simp only[ne_eq,decide_not,Bool.not_eq_true',decide_eq_false_iff_not];rintro rfl;exact hv (enc_ascii (h v (by simp)) h0 h1 hx));rw[he];simp[hv,text_cons]
theorem mapR_len {fold:Bool}{r:Int}(h:okR r):(enc (mapR fold r)).length≤(enc r).length:=by
 have h1:=enc_len r;unfold mapR;split
 ·exact h1.1
 ·split
  ·obtain⟨a0,a1,a2⟩:=h;unfold smallI;split
   ·rename_i h2;by_cases b:r≤90
    ·rw[enc_one (by omega) (by omega),enc_one (by omega) (by omega)];simp
    ·rw[enc_two (by omega) (by omega),enc_two (by omega) (by omega)];simp
   ·split
    ·rw[enc_two (by omega) (by omega),enc_two (by omega) (by omega)];simp
    ·exact Nat.le_refl _
  ·exact Nat.le_refl _
theorem mapped_len (fold:Bool): ∀m:List Int,(∀v∈m,okR v)→(text (mapped fold m)).length≤(text m).length
 | [],_=>by simp[mapped,text]
 | v::m,h=>by
  have ih:=mapped_len fold m (fun u hu=>h u (by simp[hu]));have h1:=mapR_len (fold:=fold) (h v (by simp));unfold mapped at*;by_cases hd:dropB v=true
  ·simp only[List.filter_cons,hd,Bool.not_true,Bool.false_eq_true,if_false];rw[text_cons,List.length_append];omega
  ·have hd':dropB v=false:=(by simpa using hd);simp only[List.filter_cons,hd',Bool.not_false,if_true,List.map_cons];rw[text_cons,text_cons,List.length_append,List.length_append];omega
theorem ready_len (fold:Bool)(m:List Int)(h: ∀v∈m,okR v):(text (readyR fold m)).length≤(text m).length:=by unfold readyR;rw[←sq_text _ _ (mapped_ok h)];exact Nat.le_trans (sq_len _ _ _) (mapped_len fold m h)
def mapO (l:List UInt8)(fold:Bool):Option (List UInt8):=(runes l).map fun m=>text (mapped fold m)
def readyO (l:List UInt8)(fold:Bool):Option (List UInt8):=(runes l).map fun m=>text (readyR fold m)
def phoneR (m:List Int):List Int:=(mapped true m).filter fun v=>decide (v≠32)&&decide (v≠45)
def phoneO (l:List UInt8):Option (List UInt8):=(runes l).map fun m=>text (phoneR m)
theorem mapO_len {l o:List UInt8}{fold:Bool}(h:mapO l fold=some o):o.length≤l.length:=by unfold mapO at h;obtain⟨m,hm,rfl⟩:=Option.map_eq_some_iff.1 h;obtain⟨h1,h2⟩:=runes_text _ l m (Nat.le_refl _) hm;have:=mapped_len fold m h2;rw[h1]at this;exact this
theorem readyO_len {l o:List UInt8}{fold:Bool}(h:readyO l fold=some o):o.length≤l.length:=by unfold readyO at h;obtain⟨m,hm,rfl⟩:=Option.map_eq_some_iff.1 h;obtain⟨h1,h2⟩:=runes_text _ l m (Nat.le_refl _) hm;have:=ready_len fold m h2;rw[h1]at this;exact this
theorem readyO_of_map (l:List UInt8)(fold:Bool):readyO l fold=(mapO l fold).map fun t=>Lib.join ((pieces 32 t).filter (· ≠[])) [32]:=by
 unfold readyO mapO;cases h:runes l with
 | none=>rfl
 | some m=>obtain⟨h1,h2⟩:=runes_text _ l m (Nat.le_refl _) h;show some _=some _;congr 1;show text (readyR fold m)=Lib.join ((pieces 32 (text (mapped fold m))).filter (· ≠[])) [32];rw[←sq_pieces,sq_text _ _ (mapped_ok h2)];rfl
theorem phoneO_of_ready (l:List UInt8):phoneO l=(readyO l true).map fun t=>Lib.replaceAll (Lib.replaceAll t [32] []) [45] []:=by
 unfold readyO phoneO;cases h:runes l with
 | none=>rfl
 | some m=>obtain⟨h1,h2⟩:=runes_text _ l m (Nat.le_refl _) h;show some _=some _;congr 1;show text (phoneR m)=Lib.replaceAll (Lib.replaceAll (text (readyR true m)) [32] []) [45] [];rw[replaceAll_filter,replaceAll_filter];have h3:=mapped_ok (fold:=true) h2;unfold readyR;rw[←sq_text _ _ h3,filter_sq 32 _ (by simp)];rw[show(32:UInt8)=(32:Int).toNat.toUInt8 from rfl,filter_text 32 (by omega) (by omega) _ h3];rw[show(45:UInt8)=(45:Int).toNat.toUInt8 from rfl,filter_text 45 (by omega) (by omega) _ (fun v hv=>h3 v (List.mem_filter.1 hv).1)];unfold phoneR;rw[List.filter_filter];congr 1;apply List.filter_congr;intro x _;rw[Bool.and_comm]
def sameB (a b:List UInt8):Bool:=(readyO a true).isSome&&decide (readyO a true=readyO b true)
theorem once {l o:List UInt8}{fold:Bool}(h:readyO l fold=some o):readyO o fold=some o∧sameB l o=true:=by
 unfold readyO at h;obtain⟨m,hm,rfl⟩:=Option.map_eq_some_iff.1 h;obtain⟨h1,h2⟩:=runes_text _ l m (Nat.le_refl _) hm;have hr:=runes_back (readyR fold m) (ready_ok h2);have e: ∀g:Bool,readyO (text (readyR fold m)) g=some (text (readyR (fold||g) m)):=by intro g;unfold readyO;rw[hr];show some (text (readyR g (readyR fold m)))=some _;rw[ready_ready]
 refine⟨by rw[e];simp,?_⟩;unfold sameB;rw[e true];have:readyO l true=some (text (readyR true m)):=by unfold readyO;rw[hm];rfl
 rw[this];simp
end prp
open Go.RowKit
namespace prw
open run prp
theorem drop_yes {r:Int}(h:r≤8∨(14≤r∧r≤31)∨(127≤r∧r≤132)∨(134≤r∧r≤159)∨r=173∨(8203≤r∧r≤8207)∨r=65279):true=dropB r:=by unfold dropB;exact(decide_eq_true h).symm
theorem drop_no {r:Int}(h: ¬ (r≤8∨(14≤r∧r≤31)∨(127≤r∧r≤132)∨(134≤r∧r≤159)∨r=173∨(8203≤r∧r≤8207)∨r=65279)):false=dropB r:=by unfold dropB;exact(decide_eq_false h).symm
theorem blank_yes {r:Int}(h:(9≤r∧r≤13)∨r=32∨r=133∨r=160∨r=5760∨(8192≤r∧r≤8202)∨r=8232∨r=8233∨r=8239∨r=8287∨r=12288):true=blankB r:=by unfold blankB;exact(decide_eq_true h).symm
theorem blank_no {r:Int}(h: ¬ ((9≤r∧r≤13)∨r=32∨r=133∨r=160∨r=5760∨(8192≤r∧r≤8202)∨r=8232∨r=8233∨r=8239∨r=8287∨r=12288)):false=blankB r:=by unfold blankB;exact(decide_eq_false h).symm
theorem dropped_any (r:Int)(w:World):Calls Tryz.prog 254 #[.int .i32 r] w fun e w'=>e= .returned (.bool (dropB r))∧w=w':=by
 go_enter Tryz.func254,Tryz.ntmps254;go_wp2;all_goals
  go_ret;refine⟨kt.ret_bool ?_,rfl⟩;first
   | ((try simp only[beq_iff_eq,beq_eq_false_iff_ne,ne_eq,bne_iff_ne]at*);exact drop_yes (by omega))
   | ((try simp only[beq_iff_eq,beq_eq_false_iff_ne,ne_eq,bne_iff_ne]at*);exact drop_no (by omega))
   | (rw[Bool.eq_iff_iff];unfold dropB;(try simp only[beq_iff_eq,beq_eq_false_iff_ne,ne_eq,bne_iff_ne]at*);simp only[Bool.and_eq_true,Bool.or_eq_true,decide_eq_true_eq,beq_iff_eq];omega)
theorem rdropped_any (r:Int)(w:World):Calls Tryz.prog 151 #[.int .i32 r] w fun e w'=>e= .returned (.bool (dropB r))∧w=w':=by
 go_enter Tryz.func151,Tryz.ntmps151;go_wp2;all_goals
  go_ret;refine⟨kt.ret_bool ?_,rfl⟩;first
   | ((try simp only[beq_iff_eq,beq_eq_false_iff_ne,ne_eq,bne_iff_ne]at*);exact drop_yes (by omega))
   | ((try simp only[beq_iff_eq,beq_eq_false_iff_ne,ne_eq,bne_iff_ne]at*);exact drop_no (by omega))
   | (rw[Bool.eq_iff_iff];unfold dropB;(try simp only[beq_iff_eq,beq_eq_false_iff_ne,ne_eq,bne_iff_ne]at*);simp only[Bool.and_eq_true,Bool.or_eq_true,decide_eq_true_eq,beq_iff_eq];omega)
theorem blank_any (r:Int)(w:World):Calls Tryz.prog 255 #[.int .i32 r] w fun e w'=>e= .returned (.bool (blankB r))∧w=w':=by
 go_enter Tryz.func255,Tryz.ntmps255;go_wp2;all_goals
  go_ret;refine⟨kt.ret_bool ?_,rfl⟩;first
   | ((try simp only[beq_iff_eq,beq_eq_false_iff_ne,ne_eq,bne_iff_ne]at*);exact blank_yes (by omega))
   | ((try simp only[beq_iff_eq,beq_eq_false_iff_ne,ne_eq,bne_iff_ne]at*);exact blank_no (by omega))
   | (rw[Bool.eq_iff_iff];unfold blankB;(try simp only[beq_iff_eq,beq_eq_false_iff_ne,ne_eq,bne_iff_ne]at*);simp only[Bool.and_eq_true,Bool.or_eq_true,decide_eq_true_eq,beq_iff_eq];omega)
theorem rblank_any (r:Int)(w:World):Calls Tryz.prog 152 #[.int .i32 r] w fun e w'=>e= .returned (.bool (blankB r))∧w=w':=by
 go_enter Tryz.func152,Tryz.ntmps152;go_wp2;all_goals
  go_ret;refine⟨kt.ret_bool ?_,rfl⟩;first
   | ((try simp only[beq_iff_eq,beq_eq_false_iff_ne,ne_eq,bne_iff_ne]at*);exact blank_yes (by omega))
   | ((try simp only[beq_iff_eq,beq_eq_false_iff_ne,ne_eq,bne_iff_ne]at*);exact blank_no (by omega))
   | (rw[Bool.eq_iff_iff];unfold blankB;(try simp only[beq_iff_eq,beq_eq_false_iff_ne,ne_eq,bne_iff_ne]at*);simp only[Bool.and_eq_true,Bool.or_eq_true,decide_eq_true_eq,beq_iff_eq];omega)
theorem small_any (r:Int)(w:World)(h0:0≤r)(h1:r≤1114111):Calls Tryz.prog 256 #[.int .i32 r] w fun e w'=>e= .returned (.int .i32 (smallI r))∧w=w':=by
 have ha:r+32≤2147483647:=by omega
 have hb:r+80≤2147483647:=by omega
 go_enter Tryz.func256,Tryz.ntmps256;go_wp2;all_goals
  go_ret;refine⟨kt.ret_int ?_,rfl⟩
  (try simp only[bne,Bool.not_eq_true',Bool.not_eq_false',beq_iff_eq,beq_eq_false_iff_ne,ne_eq,bne_iff_ne]at*)
  unfold smallI
  repeat' split
  all_goals omega
theorem rsmall_any (r:Int)(w:World)(h0:0≤r)(h1:r≤1114111):Calls Tryz.prog 153 #[.int .i32 r] w fun e w'=>e= .returned (.int .i32 (smallI r))∧w=w':=by
 have ha:r+32≤2147483647:=by omega
 have hb:r+80≤2147483647:=by omega
 go_enter Tryz.func153,Tryz.ntmps153;go_wp2;all_goals
  go_ret;refine⟨kt.ret_int ?_,rfl⟩
  (try simp only[bne,Bool.not_eq_true',Bool.not_eq_false',beq_iff_eq,beq_eq_false_iff_ne,ne_eq,bne_iff_ne]at*)
  unfold smallI
  repeat' split
  all_goals omega
end prw
open Go.RowKit
namespace prw
open run prp
def oneV (l:List UInt8):Ending:= .returned (.tuple #[.int .i64 ((oneL l).1:Int),.int .i64 ((oneL l).2:Int)])
theorem nth_at (s:ByteArray)(i k:Nat)(h:i+k<s.size):nth (s.data.toList.drop i) k=(s[i+k]'h).toNat:=by rw[←get_nth];have:s.get! (i+k)=s.data[i+k]! :=rfl;rw[this,getElem!_pos s.data (i+k) h];rfl
theorem drop_len (s:ByteArray)(i:Nat):(s.data.toList.drop i).length=s.size-i:=by simp
def finI (v low n:Int):Int × Int:=if v<low∨1114111<v∨(55296≤v∧v≤57343)then(0,0)else(v,n)
def restI (l:List UInt8)(n low:Int):Nat→Nat→Int→Int × Int
 | 0,_,v=>finI v low n
 | f+1,k,v=>if(nth l k:Int)<128∨191<(nth l k:Int)then(0,0)else restI l n low f (k+1) (v*64+(nth l k:Int)-128)
def Cls (c n v low:Int):Prop:=(194≤c∧c<224∧n=2∧v=c-192∧low=128)∨(224≤c∧c<240∧n=3∧v=c-224∧low=2048)∨(240≤c∧c<245∧n=4∧v=c-240∧low=65536)∨((c<194∨245≤c)∧n=0∧v=0∧low=0)
def oneI (l:List UInt8)(p:Int × Int):Prop:=oneV l= .returned (.tuple #[.int .i64 p.1,.int .i64 p.2])
theorem oneI_of {l:List UInt8}{p:Nat × Nat}(h:oneL l=p)(q:Int × Int)(h1:q.1=(p.1:Int))(h2:q.2=(p.2:Int)):oneI l q:=by unfold oneI oneV;rw[h,h1,h2]
theorem cls_none {l:List UInt8}{c v low:Int}(h:Cls c 0 v low)(hc:c=(nth l 0:Int))(h1:128≤c):oneI l (0,0):=by refine oneI_of (p:=(0,0)) ?_ _ rfl rfl;unfold Cls at h;unfold oneL oneR;rw[if_neg (by omega),if_neg (by omega),if_neg (by omega),if_neg (by omega)]
theorem cls_short {l:List UInt8}{c n v low:Int}(h:Cls c n v low)(hc:c=(nth l 0:Int))(h1:128≤c)(hn:(l.length:Int)<n):oneI l (0,0):=by
 refine oneI_of (p:=(0,0)) ?_ _ rfl rfl;unfold Cls at h;unfold oneL oneR;rw[if_neg (by omega)];rcases h with h | h | h | h
 ·rw[if_pos (by omega),if_neg (by omega)]
 ·rw[if_neg (by omega),if_pos (by omega),if_neg (by omega)]
 ·rw[if_neg (by omega),if_neg (by omega),if_pos (by omega),if_neg (by omega)]
 ·omega
theorem finI_fin (V low n:Nat):finI V low n=(((fin V low n).1:Int),((fin V low n).2:Int)):=by
 unfold finI fin;by_cases h:V<low∨1114111<V∨(55296≤V∧V≤57343)
 ·rw[if_pos h,if_pos (by omega)];rfl
 ·rw[if_neg h,if_neg (by omega)]
theorem cls_rest {l:List UInt8}{c n v low:Int}(h:Cls c n v low)(hc:c=(nth l 0:Int))(h1:128≤c)(hn:n≤(l.length:Int))(h0:n≠0):oneI l (restI l n low (n.toNat-1) 1 v):=by
 unfold Cls at h;rcases h with⟨a1,a2,rfl,rfl,rfl⟩ | ⟨a1,a2,rfl,rfl,rfl⟩ | ⟨a1,a2,rfl,rfl,rfl⟩ | h
 ·show oneI l (if(nth l 1:Int)<128∨191<(nth l 1:Int)then(0,0)else finI ((c-192)*64+(nth l 1:Int)-128) 128 2);by_cases d1:cont (nth l 1)
  ·unfold cont at d1;rw[if_neg (by omega)];rw[show(c-192)*64+(nth l 1:Int)-128=(((nth l 0-192)*64+(nth l 1-128):Nat):Int)from by omega];refine oneI_of (p:=fin ((nth l 0-192)*64+(nth l 1-128)) 128 2) ?_ _ (by rw[show(128:Int)=((128:Nat):Int)from rfl,show(2:Int)=((2:Nat):Int)from rfl,finI_fin]) (by rw[show(128:Int)=((128:Nat):Int)from rfl,show(2:Int)=((2:Nat):Int)from rfl,finI_fin]);unfold oneL oneR cont;rw[if_neg (by omega),if_pos (by omega),if_pos (by omega)]
  ·rw[if_pos (by unfold cont at d1;omega)];refine oneI_of (p:=(0,0)) ?_ _ rfl rfl;unfold oneL oneR;rw[if_neg (by omega),if_pos (by omega),if_neg (by rintro⟨_,g⟩;exact d1 g)]
 ·show oneI l (if(nth l 1:Int)<128∨191<(nth l 1:Int)then(0,0)else if(nth l 2:Int)<128∨191<(nth l 2:Int)then(0,0)else finI (((c-224)*64+(nth l 1:Int)-128)*64+(nth l 2:Int)-128) 2048 3);by_cases d:cont (nth l 1)∧cont (nth l 2)
  ·unfold cont at d;rw[if_neg (by omega),if_neg (by omega)];rw[show((c-224)*64+(nth l 1:Int)-128)*64+(nth l 2:Int)-128=((((nth l 0-224)*64+(nth l 1-128))*64+(nth l 2-128):Nat):Int)from by omega];refine oneI_of (p:=fin (((nth l 0-224)*64+(nth l 1-128))*64+(nth l 2-128)) 2048 3) ?_ _ (by rw[show(2048:Int)=((2048:Nat):Int)from rfl,show(3:Int)=((3:Nat):Int)from rfl,finI_fin]) (by rw[show(2048:Int)=((2048:Nat):Int)from rfl,show(3:Int)=((3:Nat):Int)from rfl,finI_fin]);unfold oneL oneR cont;rw[if_neg (by omega),if_neg (by omega),if_pos (by omega),if_pos (by omega)]
  ·have e:(if(nth l 1:Int)<128∨191<(nth l 1:Int)then((0,0):Int × Int)else if(nth l 2:Int)<128∨191<(nth l 2:Int)then(0,0)else finI (((c-224)*64+(nth l 1:Int)-128)*64+(nth l 2:Int)-128) 2048 3)=(0,0):=by
    unfold cont at d;by_cases d1:(nth l 1:Int)<128∨191<(nth l 1:Int)
    ·rw[if_pos d1]
    ·rw[if_neg d1,if_pos (by omega)]
   rw[e];refine oneI_of (p:=(0,0)) ?_ _ rfl rfl;unfold oneL oneR;rw[if_neg (by omega),if_neg (by omega),if_pos (by omega),if_neg (by rintro⟨_,g⟩;exact d g)]
 ·show oneI l (if(nth l 1:Int)<128∨191<(nth l 1:Int)then(0,0)else if(nth l 2:Int)<128∨191<(nth l 2:Int)then(0,0)else if(nth l 3:Int)<128∨191<(nth l 3:Int)then(0,0)else finI ((((c-240)*64+(nth l 1:Int)-128)*64+(nth l 2:Int)-128)*64+(nth l 3:Int)-128) 65536 4);by_cases d:cont (nth l 1)∧cont (nth l 2)∧cont (nth l 3)
  ·unfold cont at d;rw[if_neg (by omega),if_neg (by omega),if_neg (by omega)];rw[show(((c-240)*64+(nth l 1:Int)-128)*64+(nth l 2:Int)-128)*64+(nth l 3:Int)-128=(((((nth l 0-240)*64+(nth l 1-128))*64+(nth l 2-128))*64+(nth l 3-128):Nat):Int)from by omega];refine oneI_of (p:=fin ((((nth l 0-240)*64+(nth l 1-128))*64+(nth l 2-128))*64+(nth l 3-128)) 65536 4) ?_ _ (by rw[show(65536:Int)=((65536:Nat):Int)from rfl,show(4:Int)=((4:Nat):Int)from rfl,finI_fin]) (by rw[show(65536:Int)=((65536:Nat):Int)from rfl,show(4:Int)=((4:Nat):Int)from rfl,finI_fin]);unfold oneL oneR cont;rw[if_neg (by omega),if_neg (by omega),if_neg (by omega),if_pos (by omega),if_pos (by omega)]
  ·have e:(if(nth l 1:Int)<128∨191<(nth l 1:Int)then((0,0):Int × Int)else if(nth l 2:Int)<128∨191<(nth l 2:Int)then(0,0)else if(nth l 3:Int)<128∨191<(nth l 3:Int)then(0,0)else finI ((((c-240)*64+(nth l 1:Int)-128)*64+(nth l 2:Int)-128)*64+(nth l 3:Int)-128) 65536 4)=(0,0):=by
    unfold cont at d;by_cases d1:(nth l 1:Int)<128∨191<(nth l 1:Int)
    ·rw[if_pos d1]
    ·by_cases d2:(nth l 2:Int)<128∨191<(nth l 2:Int)
     ·rw[if_neg d1,if_pos d2]
     ·rw[if_neg d1,if_neg d2,if_pos (by omega)]
   rw[e];refine oneI_of (p:=(0,0)) ?_ _ rfl rfl;unfold oneL oneR;rw[if_neg (by omega),if_neg (by omega),if_neg (by omega),if_pos (by omega),if_neg (by rintro⟨_,g⟩;exact d g)]
 ·omega
def Vbd (k:Nat)(v:Int):Prop:=0≤v∧((k=1∧v<32)∨(k=2∧v<2048)∨(k=3∧v<131072)∨(k=4∧v<8388608))
theorem restI_stop {l:List UInt8}{n low:Int}{f k:Nat}{v:Int}(h:oneI l (restI l n low (f+1) k v))(hd:(nth l k:Int)<128∨191<(nth l k:Int)):oneI l (0,0):=by have e:restI l n low (f+1) k v=(0,0):=if_pos hd;rw[e]at h;exact h
theorem restI_on {l:List UInt8}{n low:Int}{f k:Nat}{v:Int}(h:oneI l (restI l n low (f+1) k v))(hd: ¬ ((nth l k:Int)<128∨191<(nth l k:Int))):oneI l (restI l n low f (k+1) (v*64+(nth l k:Int)-128)):=by have e:restI l n low (f+1) k v=restI l n low f (k+1) (v*64+(nth l k:Int)-128):=if_neg hd;rw[e]at h;exact h
def BadV (v low:Int):Prop:=v<low∨1114111<v∨(55296≤v∧v≤57343)
theorem finI_bad {v low:Int}(n:Int)(hd:BadV v low):finI v low n=(0,0):=if_pos hd
theorem finI_ok {v low:Int}(n:Int)(hd: ¬BadV v low):finI v low n=(v,n):=if_neg hd
theorem restI_bad {l:List UInt8}{n low:Int}{k:Nat}{v:Int}(h:oneI l (restI l n low 0 k v))(hd:BadV v low):oneI l (0,0):=by have e:restI l n low 0 k v=finI v low n:=rfl;rw[e,finI_bad n hd]at h;exact h
theorem restI_ok {l:List UInt8}{n low:Int}{k:Nat}{v:Int}(h:oneI l (restI l n low 0 k v))(hd: ¬BadV v low):oneI l (v,n):=by have e:restI l n low 0 k v=finI v low n:=rfl;rw[e,finI_ok n hd]at h;exact h
theorem one_2 (s:ByteArray)(i:Nat)(w:World)(hi:i<s.size)(hs:s.size≤1100000)(c1:194≤((s[i]'hi).toNat:Int))(c2:((s[i]'hi).toNat:Int)<224):Calls Tryz.prog 202 #[.string s,.int .i64 (i:Int)] w fun e w'=>e=oneV (s.data.toList.drop i)∧w=w':=by
 have E0:Hid (nth (s.data.toList.drop i) 0=(s[i]'hi).toNat):=nth_at s i 0 (by omega);have LL:=drop_len s i;have c0: ¬ ((s[i]'hi).toNat:Int)<128:=by omega
 have HC:Cls ((s[i]'hi).toNat:Int) 2 (((s[i]'hi).toNat:Int)-192) 128:=by unfold Cls;omega
 by_cases hl:(i:Int)+2≤(s.size:Int)
 ·have hl': ¬ (s.size:Int)<(i:Int)+2:=by omega
  have HR:Hid (oneI (s.data.toList.drop i) (restI (s.data.toList.drop i) 2 128 1 1 (((s[i]'hi).toNat:Int)-192))):=cls_rest HC (by rw[E0.out]) (by omega) (by rw[LL];omega) (by omega);clear LL HC;go_enter Tryz.func202,Tryz.ntmps202;go_wp2_with fail;go_loop [8,10,11] (fun vv kv dv=> ∃ (k:Nat) (v:Int),vv= .int .i64 v∧kv= .int .i64 (k:Int)∧1≤k∧k≤2∧Hid (Vbd k v)∧Hid (oneI (s.data.toList.drop i) (restI (s.data.toList.drop i) 2 128 (2-k) k v))) (fun _ kv _=>2- (intOf kv).toNat);case atStart=>exact⟨1,_,rfl,rfl,by omega,by omega,by show Vbd _ _;unfold Vbd;omega,HR⟩
  case round=>
   obtain⟨k,v,rfl,rfl,hk1,hk2,HV,HP⟩:=hrel;by_cases hkn:k<2
   ·have hkn':(k:Int)<2:=(by omega);have hik:i+k<s.size:=(by omega);have hik':(i:Int)+(k:Int)<(s.size:Int):=(by omega);have hik0:0≤(i:Int)+(k:Int):=(by omega);have EK:Hid (nth (s.data.toList.drop i) k=(s[i+k]'hik).toNat):=nth_at s i k hik;have g256:((s[i+k]'hik).toNat:Int)<256:=(by have:=(s[i+k]'hik).toNat_lt;omega);have d0:0≤((s[i+k]'hik).toNat:Int):=(by omega);have HF:Hid (2-k=(2- (k+1))+1):=(by show _=_;omega);rw[HF.out]at HP;by_cases hd:((s[i+k]'hik).toNat:Int)<128
    ·have HE:Hid (oneI (s.data.toList.drop i) (0,0)):=restI_stop HP.out (by rw[EK.out];exact Or.inl hd);clear HP;go_wp2_with fail;go_ret2;exact⟨HE.out.symm,rfl⟩
    ·by_cases hd2:191<((s[i+k]'hik).toNat:Int)
     ·have HE:Hid (oneI (s.data.toList.drop i) (0,0)):=restI_stop HP.out (by rw[EK.out];exact Or.inr hd2);clear HP;go_wp2_with fail;go_ret2;exact⟨HE.out.symm,rfl⟩
     ·have HE:Hid (oneI (s.data.toList.drop i) (restI (s.data.toList.drop i) 2 128 (2- (k+1)) (k+1) (v*64+((s[i+k]'hik).toNat:Int)-128))):=(by have:=restI_on HP.out (by rw[EK.out];omega);rw[EK.out]at this;exact this);have v1:0≤v:=HV.out.1;have v2:v<8388608:=(by have:=HV.out;unfold Vbd at this;omega);have HV2:Hid (Vbd (k+1) (v*64+((s[i+k]'hik).toNat:Int)-128)):=(by have:=HV.out;show Vbd _ _;unfold Vbd at this ⊢;omega);clear HP;go_wp2_with fail;go_round;case rel=>exact⟨k+1,_,rfl,by go_num,by omega,by omega,HV2,HE⟩
      case measure=>simp[intOf];omega
   ·obtain rfl:k=2:=(by omega);have v1:0≤v:=HV.out.1;have v2:v<8388608:=(by have:=HV.out;unfold Vbd at this;omega);go_wp2_with fail;all_goals
     go_ret2;refine⟨?_,rfl⟩;first
      | exact(restI_bad HP.out (by unfold BadV;omega)).symm
      | exact(restI_ok HP.out (by unfold BadV;omega)).symm
 ·have hl':(s.size:Int)<(i:Int)+2:=by omega
  have HE:Hid (oneI (s.data.toList.drop i) (0,0)):=cls_short HC (by rw[E0.out]) (by omega) (by rw[LL];omega);clear LL HC;go_enter Tryz.func202,Tryz.ntmps202;go_wp2_with fail;go_ret2;exact⟨HE.out.symm,rfl⟩
theorem one_3 (s:ByteArray)(i:Nat)(w:World)(hi:i<s.size)(hs:s.size≤1100000)(c1:224≤((s[i]'hi).toNat:Int))(c2:((s[i]'hi).toNat:Int)<240):Calls Tryz.prog 202 #[.string s,.int .i64 (i:Int)] w fun e w'=>e=oneV (s.data.toList.drop i)∧w=w':=by
 have E0:Hid (nth (s.data.toList.drop i) 0=(s[i]'hi).toNat):=nth_at s i 0 (by omega);have LL:=drop_len s i;have c0: ¬ ((s[i]'hi).toNat:Int)<128:=by omega
 have HC:Cls ((s[i]'hi).toNat:Int) 3 (((s[i]'hi).toNat:Int)-224) 2048:=by unfold Cls;omega
 by_cases hl:(i:Int)+3≤(s.size:Int)
 ·have hl': ¬ (s.size:Int)<(i:Int)+3:=by omega
  have HR:Hid (oneI (s.data.toList.drop i) (restI (s.data.toList.drop i) 3 2048 2 1 (((s[i]'hi).toNat:Int)-224))):=cls_rest HC (by rw[E0.out]) (by omega) (by rw[LL];omega) (by omega);clear LL HC;go_enter Tryz.func202,Tryz.ntmps202;go_wp2_with fail;go_loop [8,10,11] (fun vv kv dv=> ∃ (k:Nat) (v:Int),vv= .int .i64 v∧kv= .int .i64 (k:Int)∧1≤k∧k≤3∧Hid (Vbd k v)∧Hid (oneI (s.data.toList.drop i) (restI (s.data.toList.drop i) 3 2048 (3-k) k v))) (fun _ kv _=>3- (intOf kv).toNat);case atStart=>exact⟨1,_,rfl,rfl,by omega,by omega,by show Vbd _ _;unfold Vbd;omega,HR⟩
  case round=>
   obtain⟨k,v,rfl,rfl,hk1,hk2,HV,HP⟩:=hrel;by_cases hkn:k<3
   ·have hkn':(k:Int)<3:=(by omega);have hik:i+k<s.size:=(by omega);have hik':(i:Int)+(k:Int)<(s.size:Int):=(by omega);have hik0:0≤(i:Int)+(k:Int):=(by omega);have EK:Hid (nth (s.data.toList.drop i) k=(s[i+k]'hik).toNat):=nth_at s i k hik;have g256:((s[i+k]'hik).toNat:Int)<256:=(by have:=(s[i+k]'hik).toNat_lt;omega);have d0:0≤((s[i+k]'hik).toNat:Int):=(by omega);have HF:Hid (3-k=(3- (k+1))+1):=(by show _=_;omega);rw[HF.out]at HP;by_cases hd:((s[i+k]'hik).toNat:Int)<128
    ·have HE:Hid (oneI (s.data.toList.drop i) (0,0)):=restI_stop HP.out (by rw[EK.out];exact Or.inl hd);clear HP;go_wp2_with fail;go_ret2;exact⟨HE.out.symm,rfl⟩
    ·by_cases hd2:191<((s[i+k]'hik).toNat:Int)
     ·have HE:Hid (oneI (s.data.toList.drop i) (0,0)):=restI_stop HP.out (by rw[EK.out];exact Or.inr hd2);clear HP;go_wp2_with fail;go_ret2;exact⟨HE.out.symm,rfl⟩
     ·have HE:Hid (oneI (s.data.toList.drop i) (restI (s.data.toList.drop i) 3 2048 (3- (k+1)) (k+1) (v*64+((s[i+k]'hik).toNat:Int)-128))):=(by have:=restI_on HP.out (by rw[EK.out];omega);rw[EK.out]at this;exact this);have v1:0≤v:=HV.out.1;have v2:v<8388608:=(by have:=HV.out;unfold Vbd at this;omega);have HV2:Hid (Vbd (k+1) (v*64+((s[i+k]'hik).toNat:Int)-128)):=(by have:=HV.out;show Vbd _ _;unfold Vbd at this ⊢;omega);clear HP;go_wp2_with fail;go_round;case rel=>exact⟨k+1,_,rfl,by go_num,by omega,by omega,HV2,HE⟩
      case measure=>simp[intOf];omega
   ·obtain rfl:k=3:=(by omega);have v1:0≤v:=HV.out.1;have v2:v<8388608:=(by have:=HV.out;unfold Vbd at this;omega);go_wp2_with fail;all_goals
     go_ret2;refine⟨?_,rfl⟩;first
      | exact(restI_bad HP.out (by unfold BadV;omega)).symm
      | exact(restI_ok HP.out (by unfold BadV;omega)).symm
 ·have hl':(s.size:Int)<(i:Int)+3:=by omega
  have HE:Hid (oneI (s.data.toList.drop i) (0,0)):=cls_short HC (by rw[E0.out]) (by omega) (by rw[LL];omega);clear LL HC;go_enter Tryz.func202,Tryz.ntmps202;go_wp2_with fail;go_ret2;exact⟨HE.out.symm,rfl⟩
theorem one_4 (s:ByteArray)(i:Nat)(w:World)(hi:i<s.size)(hs:s.size≤1100000)(c1:240≤((s[i]'hi).toNat:Int))(c2:((s[i]'hi).toNat:Int)<245):Calls Tryz.prog 202 #[.string s,.int .i64 (i:Int)] w fun e w'=>e=oneV (s.data.toList.drop i)∧w=w':=by
 have E0:Hid (nth (s.data.toList.drop i) 0=(s[i]'hi).toNat):=nth_at s i 0 (by omega);have LL:=drop_len s i;have c0: ¬ ((s[i]'hi).toNat:Int)<128:=by omega
 have HC:Cls ((s[i]'hi).toNat:Int) 4 (((s[i]'hi).toNat:Int)-240) 65536:=by unfold Cls;omega
 by_cases hl:(i:Int)+4≤(s.size:Int)
 ·have hl': ¬ (s.size:Int)<(i:Int)+4:=by omega
  have HR:Hid (oneI (s.data.toList.drop i) (restI (s.data.toList.drop i) 4 65536 3 1 (((s[i]'hi).toNat:Int)-240))):=cls_rest HC (by rw[E0.out]) (by omega) (by rw[LL];omega) (by omega);clear LL HC;go_enter Tryz.func202,Tryz.ntmps202;go_wp2_with fail;go_loop [8,10,11] (fun vv kv dv=> ∃ (k:Nat) (v:Int),vv= .int .i64 v∧kv= .int .i64 (k:Int)∧1≤k∧k≤4∧Hid (Vbd k v)∧Hid (oneI (s.data.toList.drop i) (restI (s.data.toList.drop i) 4 65536 (4-k) k v))) (fun _ kv _=>4- (intOf kv).toNat);case atStart=>exact⟨1,_,rfl,rfl,by omega,by omega,by show Vbd _ _;unfold Vbd;omega,HR⟩
  case round=>
   obtain⟨k,v,rfl,rfl,hk1,hk2,HV,HP⟩:=hrel;by_cases hkn:k<4
   ·have hkn':(k:Int)<4:=(by omega);have hik:i+k<s.size:=(by omega);have hik':(i:Int)+(k:Int)<(s.size:Int):=(by omega);have hik0:0≤(i:Int)+(k:Int):=(by omega);have EK:Hid (nth (s.data.toList.drop i) k=(s[i+k]'hik).toNat):=nth_at s i k hik;have g256:((s[i+k]'hik).toNat:Int)<256:=(by have:=(s[i+k]'hik).toNat_lt;omega);have d0:0≤((s[i+k]'hik).toNat:Int):=(by omega);have HF:Hid (4-k=(4- (k+1))+1):=(by show _=_;omega);rw[HF.out]at HP;by_cases hd:((s[i+k]'hik).toNat:Int)<128
    ·have HE:Hid (oneI (s.data.toList.drop i) (0,0)):=restI_stop HP.out (by rw[EK.out];exact Or.inl hd);clear HP;go_wp2_with fail;go_ret2;exact⟨HE.out.symm,rfl⟩
    ·by_cases hd2:191<((s[i+k]'hik).toNat:Int)
     ·have HE:Hid (oneI (s.data.toList.drop i) (0,0)):=restI_stop HP.out (by rw[EK.out];exact Or.inr hd2);clear HP;go_wp2_with fail;go_ret2;exact⟨HE.out.symm,rfl⟩
     ·have HE:Hid (oneI (s.data.toList.drop i) (restI (s.data.toList.drop i) 4 65536 (4- (k+1)) (k+1) (v*64+((s[i+k]'hik).toNat:Int)-128))):=(by have:=restI_on HP.out (by rw[EK.out];omega);rw[EK.out]at this;exact this);have v1:0≤v:=HV.out.1;have v2:v<8388608:=(by have:=HV.out;unfold Vbd at this;omega);have HV2:Hid (Vbd (k+1) (v*64+((s[i+k]'hik).toNat:Int)-128)):=(by have:=HV.out;show Vbd _ _;unfold Vbd at this ⊢;omega);clear HP;go_wp2_with fail;go_round;case rel=>exact⟨k+1,_,rfl,by go_num,by omega,by omega,HV2,HE⟩
      case measure=>simp[intOf];omega
   ·obtain rfl:k=4:=(by omega);have v1:0≤v:=HV.out.1;have v2:v<8388608:=(by have:=HV.out;unfold Vbd at this;omega);go_wp2_with fail;all_goals
     go_ret2;refine⟨?_,rfl⟩;first
      | exact(restI_bad HP.out (by unfold BadV;omega)).symm
      | exact(restI_ok HP.out (by unfold BadV;omega)).symm
 ·have hl':(s.size:Int)<(i:Int)+4:=by omega
  have HE:Hid (oneI (s.data.toList.drop i) (0,0)):=cls_short HC (by rw[E0.out]) (by omega) (by rw[LL];omega);clear LL HC;go_enter Tryz.func202,Tryz.ntmps202;go_wp2_with fail;go_ret2;exact⟨HE.out.symm,rfl⟩
theorem one_any (s:ByteArray)(i:Nat)(w:World)(hi:i<s.size)(hs:s.size≤1100000):Calls Tryz.prog 202 #[.string s,.int .i64 (i:Int)] w fun e w'=>e=oneV (s.data.toList.drop i)∧w=w':=by
 have E0:Hid (nth (s.data.toList.drop i) 0=(s[i]'hi).toNat):=nth_at s i 0 (by omega);by_cases c0:((s[i]'hi).toNat:Int)<128
 ·have E:Hid (oneV (s.data.toList.drop i)= .returned (.tuple #[.int .i64 ((s[i]'hi).toNat:Int),.int .i64 1])):=by refine oneI_of (p:=((s[i]'hi).toNat,1)) ?_ (((s[i]'hi).toNat:Int),1) rfl rfl;have e0:=E0.out;unfold oneL oneR;rw[if_pos (by omega),e0]
  have d0:0≤((s[i]'hi).toNat:Int):=by omega
  clear E0;go_enter Tryz.func202,Tryz.ntmps202;go_wp2_with fail;go_ret2;exact⟨E.out.symm,rfl⟩
 ·by_cases c2:194≤((s[i]'hi).toNat:Int)∧((s[i]'hi).toNat:Int)<224
  ·exact one_2 s i w hi hs c2.1 c2.2
  ·by_cases c3:224≤((s[i]'hi).toNat:Int)∧((s[i]'hi).toNat:Int)<240
   ·exact one_3 s i w hi hs c3.1 c3.2
   ·by_cases c4:240≤((s[i]'hi).toNat:Int)∧((s[i]'hi).toNat:Int)<245
    ·exact one_4 s i w hi hs c4.1 c4.2
    ·have HE:Hid (oneI (s.data.toList.drop i) (0,0)):=cls_none (c:=((s[i]'hi).toNat:Int)) (v:=0) (low:=0) (by unfold Cls;omega) (by rw[E0.out]) (by omega);have g256:((s[i]'hi).toNat:Int)<256:=(by have:=(s[i]'hi).toNat_lt;omega);have f0:128≤((s[i]'hi).toNat:Int):=(by omega);clear E0 c0;by_cases a1:((s[i]'hi).toNat:Int)<194
     ·have a2:((s[i]'hi).toNat:Int)<224:=(by omega);have a3:((s[i]'hi).toNat:Int)<240:=(by omega);clear c2 c3 c4;go_enter Tryz.func202,Tryz.ntmps202;go_wp2_with fail;go_ret2;exact⟨HE.out.symm,rfl⟩
     ·have a2:245≤((s[i]'hi).toNat:Int):=(by omega);have a4:240≤((s[i]'hi).toNat:Int):=(by omega);have a5:224≤((s[i]'hi).toNat:Int):=(by omega);clear c2 c3 c4;go_enter Tryz.func202,Tryz.ntmps202;go_wp2_with fail;go_ret2;exact⟨HE.out.symm,rfl⟩
end prw
open Go.RowKit
namespace prw
open run prp
def rcells (m:List Int):List Value:=m.map (Value.int .i32 ·)
theorem rcells_length (m:List Int):(rcells m).length=m.length:=by simp[rcells]
theorem rcells_append (a b:List Int):rcells (a++b)=rcells a++rcells b:=by simp[rcells]
theorem infoRune:(Tryz.prog.info? 21).map (fun i=>(i.zero,i.size,i.bytes))=some (some (.int .i32 0),1,4):=by kernel_rfl
def OwnR (w:World)(B:Nat)(v:Value)(m:List Int):Prop:=w.ownsRow B 21 1 v (rcells m).length (rcells m)
theorem ownR_nil (w:World)(B:Nat):OwnR w B (.slice none 0 0) []:=World.ownsRow_nil _ _ _ _
theorem ownR_form {w:World}{B:Nat}{v:Value}{m:List Int}(h:OwnR w B v m): ∃ (ao:Option Addr) (cap:Nat),v= .slice ao m.length cap:=by obtain⟨ao,cap,hv,_⟩:=kt.row_slice h;rw[rcells_length]at hv;exact⟨ao,cap,hv⟩
theorem ownR_mono {w:World}{B B':Nat}{v:Value}{m:List Int}(h:OwnR w B v m)(hB:B'≤B):OwnR w B' v m:=by
 refine⟨h.1,?_⟩;rcases h.2 with h0 | ⟨g,cap,cur,hv,hBg,hg,h1,h2,h3,h4⟩
 ·exact Or.inl h0
 ·exact Or.inr ⟨g,cap,cur,hv,by omega,hg,h1,h2,h3,h4⟩
theorem row_iter {w:World}{B k pos pos':Nat}{e:TypeId}{v:Value}{n:Nat}{xs:List Value}{s:ByteArray}(h:w.ownsRow B e 1 v n xs)(hk:w.heap[k]? =some (.stringIter s pos)):(w.iterAt k s pos').ownsRow B e 1 v n xs:=by
 refine⟨h.1,?_⟩;rcases h.2 with h0 | ⟨g,cap,cur,hv,hBg,hg,h1,h2,h3,h4⟩
 ·exact Or.inl h0
 ·refine Or.inr ⟨g,cap,cur,hv,hBg,?_,h1,h2,h3,h4⟩;rw[Lib.iterAt_other _ _ _ _ _ (by rintro rfl;rw[hk]at hg;cases hg)];exact hg
theorem ownR_app {w:World}{B:Nat}{v:Value}{m:List Int}(x:Int)(hown:OwnR w B v m)(hl:m.length≤100000000)(hbase:B≤w.heap.size):
  ∃v' w1,(Builtin.append_ #[122,122] 122 #[v,.slice (some ⟨w.heap.size,0,none⟩) 1 1]).run Tryz.prog (w.alloc (.cells #[.int .i32 x] 21))= .ok v' w1∧OwnR w1 B v' (m++[x])∧Below B w w1:=by
 obtain⟨v',w1,h1,h2,_,h3⟩:=kt.app1 (P:=Tryz.prog) (t:=122) (ty:=122) Tryz.underlying122 infoRune rfl (.int .i32 x) rfl hown (by rw[rcells_length];unfold maxLen;omega) (by rw[rcells_length];omega) hbase;refine⟨v',w1,h1,?_,h3⟩;unfold OwnR;rw[rcells_append];exact h2
def RunesE (o:Option (List Int))(w:World)(e:Ending)(w':World):Prop:=
 Below w.heap.size w w'∧match o with
  | none=>e= .returned (.tuple #[.slice none 0 0,.int .i64 19])
  | some m=> ∃v,e= .returned (.tuple #[v,.int .i64 0])∧OwnR w' w.heap.size v m
theorem drop_ne {s:ByteArray}{i:Nat}(hi:i<s.size):s.data.toList.drop i≠[]:=by intro e;have:=congrArg List.length e;rw[drop_len]at this;simp at this;omega
theorem runes_on {s:ByteArray}{i:Nat}{m:List Int}(hi:i<s.size)(h:runes s.data.toList=(runes (s.data.toList.drop i)).map (m++ ·))(h1:(oneL (s.data.toList.drop i)).2≠0):
  runes s.data.toList=(runes (s.data.toList.drop (i+(oneL (s.data.toList.drop i)).2))).map ((m++[((oneL (s.data.toList.drop i)).1:Int)])++ ·):=by
 rw[runes_step _ (drop_ne hi),if_neg h1,List.drop_drop]at h;rw[h,Option.map_map];congr 1;funext x;simp
theorem runes_off {s:ByteArray}{i:Nat}{m:List Int}(hi:i<s.size)(h:runes s.data.toList=(runes (s.data.toList.drop i)).map (m++ ·))(h1:(oneL (s.data.toList.drop i)).2=0):runes s.data.toList=none:=by rw[runes_step _ (drop_ne hi),if_pos h1]at h;exact h
theorem runes_end {s:ByteArray}{m:List Int}(h:runes s.data.toList=(runes (s.data.toList.drop s.size)).map (m++ ·)):runes s.data.toList=some m:=by rw[List.drop_of_length_le (by simp),runes_nil]at h;simpa using h
theorem one_le {s:ByteArray}{i:Nat}(hi:i<s.size):i+(oneL (s.data.toList.drop i)).2≤s.size:=by have:=one_width _ (drop_ne hi);rw[drop_len]at this;omega
theorem rrunes_any (s:ByteArray)(w:World)(hs:s.size≤1100000):Calls Tryz.prog 150 #[.string s] w fun e w'=>RunesE (runes s.data.toList) w e w':=by
 go_enter Tryz.func150,Tryz.ntmps150;go_wp2_with fail;go_loopw [4,5] (fun lv iv wr=> ∃ (i:Nat) (m:List Int),i≤s.size∧iv= .int .i64 (i:Int)∧Hid (OwnR wr w.heap.size lv m)∧m.length≤i∧Hid (runes s.data.toList=(runes (s.data.toList.drop i)).map (m++ ·))∧Below w.heap.size w wr) (fun _ iv _=>s.size- (intOf iv).toNat);case atStart=>
  refine⟨0,[],Nat.zero_le _,rfl,?_,by simp,by show _=_;simp,?_⟩
  ·exact World.ownsRow_made _ #[] 0 (by simp) (by unfold maxLen;omega) rfl
  ·exact(Below.refl _ _).alloc (Nat.le_refl _) _
 case round=>
  obtain⟨i,m,hi,rfl,hO,hm,hR,hB⟩:=hrel;have hsz:=hB.size;by_cases hlt:i<s.size
  ·have hlt':(i:Int)<(s.size:Int):=(by omega);have ho:=one_any s i wr hlt hs;have h1:=one_le hlt;unfold oneV at ho;by_cases hz:(oneL (s.data.toList.drop i)).2=0
   ·have HN:Hid (runes s.data.toList=none):=runes_off hlt hR.out hz;rw[hz]at ho;generalize((oneL (s.data.toList.drop i)).1:Int)=r at ho;have HO:=Lib.hid ho;clear ho hz h1;go_wp2_with fail;refine HO.out.mono ?_;rintro e w1 ⟨rfl,rfl⟩;go_wp2_with fail;go_ret2;refine⟨hB,?_⟩;rw[HN.out];rfl
   ·have HN:=Lib.hid (runes_on hlt hR.out hz);have hn0:1≤(oneL (s.data.toList.drop i)).2:=(by omega);have hok:=one_ok _ hz;generalize hrr:((oneL (s.data.toList.drop i)).1:Int)=r at ho HN hok;generalize hnn:(oneL (s.data.toList.drop i)).2=n at ho HN h1 hn0;have HO:=Lib.hid ho;obtain⟨hr0,hr1,_⟩:=hok;have hnz:((n:Int)==0)=false:=(by rw[beq_eq_false_iff_ne];omega);obtain⟨v',w1,hap,hO1,hB1⟩:=ownR_app r hO.out (by omega) hsz;have HO1:=Lib.hid hO1;have HB1:=Lib.hid hB1;have hn1:(n:Int)≤1100000:=(by omega);have hin:i+n≤s.size:=h1;clear ho hz hnn hrr hO1 hB1 h1;go_wp2_with fail;refine HO.out.mono ?_;rintro e w1 ⟨rfl,rfl⟩;go_wp2_with (at_builtin;refine Lib.wpList_append_run _ rfl _ _ _ _ rfl _ _ rfl rfl _ _ hap ?_);go_roundw;case rel=>exact⟨i+n,m++[r],hin,by go_num,HO1,by simp;omega,HN,hB.trans HB1.out⟩
    case measure=>simp[intOf];omega
  ·obtain rfl:i=s.size:=(by omega);have HN:Hid (runes s.data.toList=some m):=runes_end hR.out;go_wp2_with fail;go_ret2;refine⟨hB,?_⟩;rw[HN.out];exact⟨_,rfl,hO.out⟩
theorem runes_any (s:ByteArray)(w:World)(hs:s.size≤1100000):Calls Tryz.prog 253 #[.string s] w fun e w'=>RunesE (runes s.data.toList) w e w':=by
 go_enter Tryz.func253,Tryz.ntmps253;go_wp2_with fail;go_loopw [4] (fun lv wr=> ∃ (i:Nat) (m:List Int),i≤s.size∧wr.heap[w.heap.size]? =some (.stringIter s i)∧Hid (OwnR wr (w.heap.size+1) lv m)∧m.length≤i∧Hid (runes s.data.toList=(runes (s.data.toList.drop i)).map (m++ ·))∧Below w.heap.size w wr) (fun _ wr=>s.size-wr.iterPos w.heap.size);case atStart=>
  refine⟨0,[],Nat.zero_le _,?_,?_,by simp,by show _=_;simp,?_⟩
  ·exact World.iter_heap w s 0
  ·exact ownR_nil _ _
  ·exact(Below.refl _ _).alloc (Nat.le_refl _) _
 case round=>
  obtain⟨i,m,hi,hit,hO,hm,hR,hB⟩:=hrel;have hsz:w.heap.size<wr.heap.size:=(Array.getElem?_eq_some_iff.1 hit).1;by_cases hlt:i<s.size
  ·have h1:=one_le hlt;by_cases hz:(oneL (s.data.toList.drop i)).2=0
   ·have HN:Hid (runes s.data.toList=none):=runes_off hlt hR.out hz;obtain⟨hdec,hno⟩:=decode_no s i hlt hz;have hnx: ∀ty,(Instr.next (.pointer (some ⟨w.heap.size,0,none⟩)) true ty).run Tryz.prog wr=_:=fun ty=>Lib.run_next_any_at wr w.heap.size s i ty hit hlt;rw[hdec]at hnx;have hB2:=Lib.below_iterAt hB (Nat.le_refl _) s (i+1);have hp:Lib.hasPrefix (s.extract i s.size).data.toList [239,191,189]=false:=(by unfold Lib.hasPrefix;rw[Bool.eq_false_iff];intro e;rw[List.isPrefixOf_iff_prefix,Lib.extract_to_end]at e;exact hno ((fffd_prefix _).2 e));have CP:=Tryz.strings_HasPrefix (s.extract i s.size) ⟨#[239,191,189]⟩ (wr.iterAt w.heap.size s (i+1));rw[show(⟨#[239,191,189]⟩:ByteArray).data.toList=[239,191,189]from rfl,hp]at CP;have HP:=Lib.hid CP;clear CP hp hdec hno hz h1;go_wp2_with fail;refine HP.out.mono ?_;rintro e w1 ⟨rfl,rfl⟩;go_wp2_with fail;go_ret2;refine⟨hB2,?_⟩;rw[HN.out];rfl
   ·have HN:=Lib.hid (runes_on hlt hR.out hz);have hn0:1≤(oneL (s.data.toList.drop i)).2:=(by omega);have hdec:=decode_yes s i hlt hz;have hff:=fffd_yes _ hz;have hnx: ∀ty,(Instr.next (.pointer (some ⟨w.heap.size,0,none⟩)) true ty).run Tryz.prog wr=_:=fun ty=>Lib.run_next_any_at wr w.heap.size s i ty hit hlt;rw[hdec]at hnx;have hff2:((oneL (s.data.toList.drop i)).1:Int)=65533→fffd (s.data.toList.drop i):=fun e=>hff (by omega);clear hff;generalize hrr:((oneL (s.data.toList.drop i)).1:Int)=rn at HN hnx hff2;generalize hnn:(oneL (s.data.toList.drop i)).2=n at HN h1 hn0 hnx;have hB2:=Lib.hid (Lib.below_iterAt hB (Nat.le_refl _) s (i+n));have hit2:=Lib.hid (Lib.iterAt_heap wr w.heap.size s i (i+n) hit);have hsz2:w.heap.size+1≤(wr.iterAt w.heap.size s (i+n)).heap.size:=(by rw[Lib.iterAt_size];exact hsz);have hO2:OwnR (wr.iterAt w.heap.size s (i+n)) (w.heap.size+1) _ m:=row_iter hO.out hit;obtain⟨v',w1,hap,hO1,hB1⟩:=ownR_app rn hO2 (by omega) hsz2;have hit3:w1.heap[w.heap.size]? =some (.stringIter s (i+n)):=(hB1.block _ (by omega)).trans hit2.out;have hms:Hid (s.size-w1.iterPos w.heap.size<s.size-wr.iterPos w.heap.size):=(by show _<_;simp only[World.iterPos,hit3,hit];omega);have HIT3:=Lib.hid hit3;have HO1:=Lib.hid hO1;have HB1:=Lib.hid (hB2.out.trans (hB1.mono (by omega)));have hin:i+n≤s.size:=h1;clear hdec hz hnn hO1 hB1 h1 hO2 hit3;by_cases h65:rn=65533
    ·have hpx:=(fffd_prefix _).1 (hff2 h65);have hp:Lib.hasPrefix (s.extract i s.size).data.toList [239,191,189]=true:=(by unfold Lib.hasPrefix;rw[List.isPrefixOf_iff_prefix,Lib.extract_to_end];exact hpx);have CP:=Tryz.strings_HasPrefix (s.extract i s.size) ⟨#[239,191,189]⟩ (wr.iterAt w.heap.size s (i+n));rw[show(⟨#[239,191,189]⟩:ByteArray).data.toList=[239,191,189]from rfl,hp]at CP;have HP:=Lib.hid CP;clear CP hp hpx hff2 hrr;subst h65;go_wp2_with fail;refine HP.out.mono ?_;rintro e w1 ⟨rfl,rfl⟩;go_wp2_with (at_builtin;refine Lib.wpList_append_run _ rfl _ _ _ _ rfl _ _ rfl rfl _ _ hap ?_);go_roundw;case rel=>exact⟨i+n,m++[65533],hin,HIT3.out,HO1,by simp;omega,HN,HB1.out⟩
     case measure=>exact hms.out
    ·have h65':(rn==65533)=false:=(by rw[beq_eq_false_iff_ne];omega);clear hff2 hrr h65;go_wp2_with (at_builtin;refine Lib.wpList_append_run _ rfl _ _ _ _ rfl _ _ rfl rfl _ _ hap ?_);go_roundw;case rel=>exact⟨i+n,m++[rn],hin,HIT3.out,HO1,by simp;omega,HN,HB1.out⟩
     case measure=>exact hms.out
  ·obtain rfl:i=s.size:=(by omega);have HN:Hid (runes s.data.toList=some m):=runes_end hR.out;have hnx: ∀ty,(Instr.next (.pointer (some ⟨w.heap.size,0,none⟩)) true ty).run Tryz.prog wr=_:=fun ty=>Lib.run_next_end_at wr w.heap.size s s.size ty hit hlt;go_wp2_with fail;go_ret2;refine⟨hB,?_⟩;rw[HN.out];exact⟨_,rfl,ownR_mono hO.out (by omega)⟩
end prw
open Go.RowKit
namespace bld
theorem writeRune_any (B b:Nat)(l:List UInt8)(r:Int)(w:World)(h:Is B b l w)(hr0:0≤r)(hr1:r≤1114111)(hlen:l.length≤1000000000)(hBw:B≤w.heap.size):
  Calls Tryz.prog 257 #[.pointer (some ⟨b,0,none⟩),.int .i32 r] w fun e w'=> ∃v,e= .returned v∧(Is B b (l++run.enc r) w'∧Below B w w'):=by
 have hbc:(Lib.byteCells l).length=l.length:=Lib.byteCells_length l;have hbc':Lib.byteCells (l++run.enc r)=Lib.byteCells l++Lib.runeCells r:=by rw[Lib.byteCells_append];unfold run.enc;rw[Lib.byteCells_encodeRune]
 unfold Is;rw[hbc'];have h0:Lib.IsBuilder 133 5 B b (Lib.byteCells l) w:=h;clear h hbc';generalize Lib.byteCells l=bs at h0 hbc ⊢;have C:=Lib.hid (copyCheck_any B b bs w h0);clear h0;go_enter Tryz.func257,Tryz.ntmps257;go_wp2_with fail;refine C.out.mono ?_;rintro e w1 ⟨rfl,h1,hb1⟩;obtain⟨hB,v,hbk,hown,hne⟩:=h1;have hsz:=hb1.size;have c0:w1.cell? ⟨b,0,none⟩=some (.pointer (some ⟨b,0,none⟩)):=by rw[Lib.cell_of_heap hbk];rfl
 have c1:w1.cell? ⟨b,1,none⟩=some v:=by rw[Lib.cell_of_heap hbk];rfl
 have hlt:=lt_of_heap hbk;have HOWN:=Lib.hid hown;have HBK:=Lib.hid hbk;have HNE:=Lib.hid hne;have HBC:=Lib.hid hbc;obtain⟨ao,n,cap,hv,hn⟩:=kt.row_form hown;have CA:=Lib.hid (Tryz.utf8_AppendRune_plain B v bs.length bs r (by omega) (by omega) w1 hown (by rw[hbc];omega) (by omega));clear hown hbk hne hbc C;subst hv;go_wp2_with fail;refine CA.out.mono ?_;rintro e w2 ⟨v',rfl,hown',o,hgr⟩;have hgr2:Below B w1 w2:=((Below.refl B w1).alloc (by omega) o).trans ((Below.refl B _).grown hgr (by simp;omega) (fun k hk=>(HOWN.out.lt k hk).1));have hbk2:w2.heap[b]? =some (.cells #[.pointer (some ⟨b,0,none⟩),.slice ao n cap] 133 (0,0)):=by rw[hgr.block b (by simp;omega) (fun e=>HNE.out e.symm),Below.heap_alloc _ _ _ hlt];exact HBK.out
 have d1:w2.cell? ⟨b,1,none⟩=some (.slice ao n cap):=by rw[Lib.cell_of_heap hbk2];rfl
 have f1:w2.frozen? ⟨b,1,none⟩=false:=Lib.frozen_of_heap hbk2 1;have hown2:w2.ownsRow B 5 1 v' (bs++Lib.runeCells r).length (bs++Lib.runeCells r):=by rw[List.length_append];exact hown'
 obtain⟨ao',n',cap',rfl,hn'⟩:=kt.row_form hown2;have H1:=Lib.hid hown2;have HB:=Lib.hid hbk2;have HGR:=Lib.hid hgr2;clear hown' hbk2 hgr hown2 CA HNE HBK hgr2;go_wp2_with fail;go_ret2;exact⟨_,rfl,Or.inr (Lib.BuilderAt.put hB HB.out H1.out (by decide)),(hb1.trans HGR.out).setCell (p:=⟨b,1,none⟩) hB _⟩
end bld
end Go.Proofs.YtmnpfkbjpeaemaaGreatDoor
