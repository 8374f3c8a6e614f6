/-
  Joined texts: MemB, MemC, LayA, LaiZ, CalH, NewT, LayB, CalI, CalK, PlyC, PlyD, WldB, BegA, BegB, LivA, LivB, WlkA, WlkB, SymA, SymB.
-/
import Derived.Test.YtoociceebodfeaaGreatDoorJLawCSymsm
import Derived.Test.YtoociceebodfeaaGreatDoorJLawCSymsg
import Derived.Test.YtoociceebodfeaaGreatDoorJLawCSymsi
import Derived.Test.YtoociceebodfeaaGreatDoorJLawCSymsh
import Derived.Test.YtoociceebodfeaaGreatDoorJLawCSymsl
import Derived.Test.YtoociceebodfeaaGreatDoorJLawCSymsj
import Derived.Test.YtoociceebodfeaaGreatDoorJLawCSymsk
import Derived.Test.YtoociceebodfeaaGreatDoorJLawCSymse
import Derived.Test.YtoociceebodfeaaGreatDoorRows
set_option linter.all false
set_option maxRecDepth 100000
set_option maxHeartbeats 1000000
namespace Go.Proofs.YtoociceebodfeaaGreatDoor
open Go Go.aK
def l7 (h:Heap)(L:ML)(M:aS):Prop:=Own h 46 1 L.sa L.len L.cap (M.sure.map wv)
theorem Xm {h:Heap}{b off n c:Nat}{ws:List UInt64}(S:Sl h (some ⟨b,off,none⟩) n c ws)(hn:n<=1099511627776):aB Tryz.prog 41 [.slice (some ⟨b,off,none⟩) n c] h (λv h'=>Keeps [] h h'/\∃ a' c',v=.slice a' n c'/\Own h' 46 1 a' n c' (ws.map wv)/\Sl h' a' n c' ws/\∀ x∈ay a',h.size<=x/\x<h'.size):=by
 refine aG aH Tryz.func41 rfl ok41 (by simp [Tryz.f41]) ?_;(conv=>whnf);refine aj.f rfl ?_;(conv=>whnf);refine aO.i λb1 h1 e1 s1 o1 k1=>?_;(conv=>whnf);have hl:=S.hlen;have O:Own h1 46 1 (some ⟨b1,0,none⟩) 0 0 []:=.inr ⟨b1,[],rfl,o1,rfl,rfl,rfl,Nat.le_refl _⟩;refine jN (e:=46) (sz:=1) (aL:=8) (new:=ws.map wv) rfl rfl rfl rfl rfl rfl rfl O (by simp [hl]) ((S.keep k1).cells1) (tJ ws) (by omega) (by decide) (by simp [ax]) ?_;intro a2 c2 h2 O2 k2 n2;(conv=>whnf);rw [Nat.zero_add] at O2;have nb:∀ x∈ay a2,h.size<=x/\x<h2.size:=λx hx=>by
  refine ⟨?_,O2.lt x hx⟩;rcases n2 x hx with h|h
  ·simp [ay] at h;omega
  ·omega
 refine ⟨k1.dw k2 (by intro x hx;simp [ay] at hx;omega),a2,c2,by rw [Nat.zero_add],O2,?_,nb⟩;have R:iO h2 ([]++ws.map wv) ws:=by
  rw [List.nil_append];exact xu h2 ws
 exact O2.sl R rfl (by decide) (by omega)
theorem Xn {h:Heap}{b off n c:Nat}{ws:List UInt64}(S:Sl h (some ⟨b,off,none⟩) n c ws)(hn:n<=4096):aB Tryz.prog 82 [.slice (some ⟨b,off,none⟩) n c] h (λv h'=>Keeps [] h h'/\∃ L:ML,v=.pointer (some ⟨L.m,0,none⟩)/\fM h' L ⟨ws,[],[],0,-1⟩/\l7 h' L ⟨ws,[],[],0,-1⟩/\∀ x∈L.blocks,h.size<=x):=by
 refine aG aH Tryz.func82 rfl ok82 (by simp [Tryz.f82]) ?_;(conv=>whnf);have hm:(if (4096:Int)<(n:Int) then (4096:Int) else (n:Int))=(n:Int):=if_neg (by omega);have hl:=S.hlen;refine di.i 0 n rfl hm (Nat.zero_le _) S.hcap ?_;(conv=>whnf);have S1:=S.part (l:=0) (r:=n) (Nat.zero_le _) (Nat.le_refl _);have e1:∀ s,jd (some ⟨b,off,none⟩) c 0 s=some ⟨b,off,none⟩:=λs=>by
  unfold jd;split
  ·rfl
  ·simp [Addr.add]
 rw [e1,Nat.sub_zero,Nat.sub_zero,List.drop_zero,hl,List.take_length,<-hl] at S1;rw [e1,Nat.sub_zero,Nat.sub_zero];refine ak.i (Xm S1 (by omega)) λv h1 k1 hv=>?_;obtain ⟨a',c',rfl,O2,S2,nb⟩:=hv;(conv=>whnf);refine aO.i λb2 h2 e2 s2 o2 k2=>?_;(conv=>whnf);refine aO.i λb3 h3 e3 s3 o3 k3=>?_;(conv=>whnf);refine aO.i λb4 h4 e4 s4 o4 k4=>?_;(conv=>whnf);have z1:=k1.size;refine ⟨k1.trans (k2.trans (k3.trans k4)),⟨b4,a',n,c',b2,b3⟩,rfl,⟨o4,S2.keep (k2.trans (k3.trans k4)),(dB.new o2).keep (k3.trans k4) (by simp),(dB.new o3).keep k4 (by simp),by show b2≠b3;omega,λx hx=>?_,λx hx=>by have:=nb x hx;omega⟩,O2.keep (k2.trans (k3.trans k4)) (by simp),?_⟩
 ·have:=nb x hx;show x≠b4/\x≠b2/\x≠b3;omega
 ·intro x hx;simp only [ML.blocks,List.mem_cons] at hx;rcases hx with hx|hx|hx|hx
  ·have hx:x=b4:=hx;omega
  ·have hx:x=b2:=hx;omega
  ·have hx:x=b3:=hx;omega
  ·exact (nb x hx).1
theorem Xo (n:Nat)(hp:0<n)(hn:n<=4096)(h:Heap):aB Tryz.prog 37 [.int .i64 (n:Int)] h (λv h'=>Keeps [] h h'/\∃ L:ML,v=.pointer (some ⟨L.m,0,none⟩)/\fM h' L ⟨List.replicate n 0,[],[],0,-1⟩/\l7 h' L ⟨List.replicate n 0,[],[],0,-1⟩/\∀ x∈L.blocks,h.size<=x):=by
 refine aG aH Tryz.func37 rfl ok37 (by simp [Tryz.f37]) ?_;(conv=>whnf);have e1:(if (4096:Int)<(if (n:Int)<0 then 0 else (n:Int)) then (4096:Int) else (if (n:Int)<0 then 0 else (n:Int)))=(n:Int):=by
  rw [if_neg (show ¬ ((n:Int)<0) by omega),if_neg (by omega)]
 have e2:(if (4096:Int)<(if (0:Int)>(n:Int) then 0 else (n:Int)) then (4096:Int) else (if (0:Int)>(n:Int) then 0 else (n:Int)))=(n:Int):=e1;rw [e2];refine aQ.make (n:=n) rfl rfl rfl rfl rfl (by show 8*n<=_;omega) (by omega) λb1 h1 e3 s1 o1 k1=>?_;have rX:h1[b1]?=some (.cells ⟨(List.replicate n (0:UInt64)).map wv⟩ 46 (0,0)):=by
  rw [o1,List.map_replicate];rfl
 have S1:Sl h1 (some ⟨b1,0,none⟩) n n (List.replicate n (0:UInt64)):=Sl.mF rX (by simp [One.ok]) (by simp) (by simp;omega);(conv=>whnf);refine ak.i (Xn S1 hn) λv h2 k2 hv=>?_;obtain ⟨L,rfl,A2,O2,nb⟩:=hv;(conv=>whnf);exact ⟨k1.trans k2,L,rfl,A2,O2,λx hx=>by have:=nb x hx;omega⟩
def kQ (loose way:List (Int×UInt64))(first:Int):Nat->List (Int×UInt64)
 | 0=>way
 | k+1=>match lk loose (first+(k:Int)) with | some v=>gU (kQ loose way first k) (first+(k:Int)) v | none=>kQ loose way first k
theorem Nl (loose way:List (Int×UInt64))(first:Int):∀ (k:Nat) (x:Int),lk (kQ loose way first k) x=if first<=x/\x<first+(k:Int) then (match lk loose x with|some v=>some v|none=>lk way x) else lk way x
 | 0,x=>by rw [if_neg (by omega)];rfl
 | k+1,x=>by
  have ih:=Nl loose way first k x;unfold kQ;cases hl:lk loose (first+(k:Int)) with
  | none=>
   simp only;rw [ih];by_cases e:x=first+(k:Int)
   ·subst e;rw [if_neg (by omega),if_pos (by omega),hl]
   ·by_cases h2:first<=x/\x<first+(k:Int)
    ·rw [if_pos h2,if_pos (by omega)]
    ·rw [if_neg h2,if_neg (by omega)]
  | some v=>
   simp only;rw [rW];by_cases e:x=first+(k:Int)
   ·rw [if_pos e,e,if_pos (by omega),hl]
   ·rw [if_neg e,ih];by_cases h2:first<=x/\x<first+(k:Int)
    ·rw [if_pos h2,if_pos (by omega)]
    ·rw [if_neg h2,if_neg (by omega)]
def l6 (i:Int):Int:=i-i.tmod 8
theorem WW {h:Heap}{L:ML}{M:aS}(A:fM h L M)(i:Int)(hi:0<=i/\i<1000000)(h0:(M.call (M.there i)).1=0):aB Tryz.prog 86 [.pointer (some ⟨L.m,0,none⟩),.int .i64 i] h (λv h'=>Keeps [L.m,L.wb] h h'/\v=.int .i64 0/\fM h' L { (M.call (M.there i)).2 with way:=kQ (M.call (M.there i)).2.loose (M.call (M.there i)).2.way (l6 i) 8 }):=by
 refine aG aH Tryz.func86 rfl ok86 (by simp [Tryz.f86]) ?_;(conv=>whnf);refine ak.i (Eb A i) λv h1 k1 hv=>?_;subst hv;have A1:=A.on k1;(conv=>whnf);refine ak.m (Ec A1 (M.there i)) (by simp [ax]) λv h2 k2 hv=>?_;obtain ⟨rfl,A2⟩:=hv;generalize (M.call (M.there i)).2=N at A2 ⊢;rw [h0];(conv=>whnf);refine aj.f rfl ?_;have hm8:0<=i.tmod 8/\i.tmod 8<8:=by
  rw [Int.tmod_eq_emod_of_nonneg hi.1];omega
 have ew:IntKind.i64.wrap (i-i.tmod 8)=l6 i:=dR (by omega) (by omega);have hlo:0<=l6 i/\l6 i<1000000:=by
  unfold l6;have:i.tmod 8<=i:=by rw [Int.tmod_eq_emod_of_nonneg hi.1];omega
  omega
 (conv=>whnf);refine dK.i (by decide) ?_;(conv=>whnf);rw [ew];generalize l6 i=q at hlo ⊢;refine bO.on [0,6,7] [] (λk:Nat=>[(0,.v (.pointer (some ⟨L.m,0,none⟩))),(6,.v (.int .i64 q)),(7,.v (.int .i64 (q+(k:Int))))]) (λ_=>[])
  (λk h'=>k<=8/\Keeps [L.m,L.wb] h h'/\fM h' L { N with way:=kQ N.loose N.way q k }) (λk=>8-k) 0 ?_ ?_
 ·(conv=>whnf);refine ⟨0,rfl,by simp,rfl,Nat.zero_le _,?_,A2⟩;exact (k1.mono (by simp)).trans (k2.mono (by simp))
 ·rintro k h3 ⟨hk,k3,A3⟩;have e8:IntKind.i64.wrap (q+8)=q+8:=dR (by omega) (by omega);(conv=>whnf);rw [e8];refine aj.i (λhc=>?_) (λhc=>?_)
  ·have hk1:k<8:=by simp at hc;omega
   (conv=>whnf);(try refine aU.pass ?_;conv=>whnf);refine au.o A3.obj rfl ?_;have en:IntKind.i64.wrap (q+(k:Int)+1)=q+((k+1:Nat):Int):=by
    rw [dR (by omega) (by omega)];simp;omega
   cases hl:lk N.loose (q+(k:Int)) with
   | some w=>
    (conv=>whnf);refine gH.is A3.loose (by rw [qM,hl]) ?_;(conv=>whnf);(try refine aU.pass ?_;conv=>whnf);refine aj.t rfl ?_;(conv=>whnf);refine au.o A3.obj rfl ?_;(conv=>whnf);refine aQ.put rfl rfl A3.way (by simp [ax]) λh4 s4 M4 k4=>?_;(conv=>whnf);refine ⟨8-(k+1),by omega,?_⟩;(conv=>whnf);refine ⟨k+1,rfl,by rw [en],rfl,by omega,k3.trans (k4.mono (by simp)),?_⟩;have hfl:kQ N.loose N.way q (k+1)=gU (kQ N.loose N.way q k) (q+(k:Int)) w:=by
     conv=>lhs;unfold kQ
     rw [hl]
    rw [hfl];have a3:=A3.ap3;exact ⟨k4.obj A3.obj (by simpa using a3.2),A3.sure.jH k4 (λb hb=>by simpa using (A3.ap2 b hb).2.2),A3.loose.keep k4 (by simpa using A3.ap1),by rw [<-Az];exact M4,A3.ap1,A3.ap2,λb hb=>Nat.lt_of_lt_of_le (A3.lt b hb) k4.size⟩
   | none=>
    (conv=>whnf);refine gH.is A3.loose (by rw [qM,hl]) ?_;(conv=>whnf);(try refine aU.pass ?_;conv=>whnf);refine aj.f rfl ?_;(conv=>whnf);refine ⟨8-(k+1),by omega,?_⟩;(conv=>whnf);refine ⟨k+1,rfl,by rw [en],rfl,by omega,k3,?_⟩;have hfl:kQ N.loose N.way q (k+1)=kQ N.loose N.way q k:=by
     conv=>lhs;unfold kQ
     rw [hl]
    rw [hfl];exact A3
  ·have hk1:k=8:=by simp at hc;omega
   subst hk1;(conv=>whnf);exact ⟨k3,rfl,A3⟩
set_option maxHeartbeats 2000000
theorem Np {a:Int}{l1 l2:List Int}:(l1++a::l2).Nodup↔(a::(l1++l2)).Nodup:=List.perm_middle.nodup_iff
theorem Xc {h:Heap}{a:Option Addr}{n c:Nat}{ws:List UInt64}(O:Own h 46 1 a n c (ws.map wv))(hb:ws.length<=281474976710656):Sl h a n c ws:=by
 exact O.sl (α:=UInt64) (xu h ws) rfl (by decide) hb
theorem Xd {l:List (Int×UInt64)}{j:Nat}{n:Int}(hn:(l.map (·.1)).Nodup)(hj:(l[j]?).map (·.1)=some n)(k:Int):lk (l.eraseIdx j) k=if k=n then none else lk l k:=by
 induction l generalizing j with
 | nil=>simp at hj
 | cons p l ih=>
  obtain ⟨a,v⟩:=p;simp only [List.map_cons,List.nodup_cons] at hn;cases j with
  | zero=>
   simp at hj;subst hj;simp only [List.eraseIdx_cons_zero,lk];by_cases e:k=a
   ·rw [if_pos e,e];cases h:lk l a with
    | none=>rfl
    | some w=>
     exfalso;apply hn.1;clear ih hn
     induction l with
     | nil=>cases h
     | cons q l ih=>
      obtain ⟨b,u⟩:=q;simp only [lk] at h;simp only [List.map_cons,List.mem_cons];split at h
      ·rename_i e;exact .inl e
      ·exact .inr (ih h)
   ·rw [if_neg e,if_neg e]
  | succ j=>
   have hj':(l[j]?).map (·.1)=some n:=by simpa using hj
   have hna:n≠a:=by
    rintro rfl;apply hn.1;simp only [Option.map_eq_some_iff] at hj';obtain ⟨q,hq,rfl⟩:=hj';exact List.mem_map.2 ⟨q,List.mem_of_getElem? hq,rfl⟩
   simp only [List.eraseIdx_cons_succ,lk];rw [ih hn.2 hj'];by_cases e:k=a
   ·rw [if_pos e,if_pos e,if_neg (λx=>hna (x.symm.trans e))]
   ·rw [if_neg e,if_neg e]
theorem Xe (l:List (Int×UInt64))(j:Nat):(fF l).eraseIdx j=fF (l.eraseIdx j):=by
 unfold fF;exact wN _ l j
theorem Gp {h:Heap}{r:Nat}{l:List (Int×UInt64)}(o:dB h r (fF l)):(l.map (·.1)).Nodup:=by
 obtain ⟨es,cl,_,_,g,_⟩:=o;have:(fF l).map (·.1)=l.map (·.1):=by simp [fF]
 rw [this] at g;exact g
theorem Xf {l:List (Int×UInt64)}{x:Int}{v:UInt64}(h:lk l x=some v):x∈l.map (·.1):=by
 induction l with
 | nil=>cases h
 | cons p l ih=>
  obtain ⟨a,w⟩:=p;simp only [lk] at h;simp only [List.map_cons,List.mem_cons];split at h
  ·rename_i e;exact .inl e
  ·exact .inr (ih h)
theorem Xg {l:List (Int×UInt64)}(h:fF l=[]):l=[]:=by
 unfold fF at h;exact List.map_eq_nil_iff.1 h
theorem WZ {h:Heap}{L:ML}{M:aS}(A:fM h L M)(O:l7 h L M)(hu:M.gm = -1)(hs:M.sure.length<=1000000)(hw:∀ p∈M.way,lk M.loose p.1=some p.2/\M.there p.1=true):aB Tryz.prog 87 [.pointer (some ⟨L.m,0,none⟩)] h (λv h'=>Keeps L.blocks h h'/\v=.int .i64 0 /\
 ∃ N:aS,fM h' L N/\l7 h' L N/\N.gm = -1/\N.sure.length=M.sure.length/\N.way=[]/\(∀ i,N.read i=M.read i)/\(∀ x,lk N.loose x≠none->lk M.loose x≠none/\lk M.way x=none)):=by
 have hc1:(M.call true).1=0:=by
  unfold aS.call;rw [hu];simp
 have hc2:(M.call true).2={ M with calls:=IntKind.i64.wrap (M.calls+1) }:=by
  unfold aS.call;rw [hu];simp
 refine aG aH Tryz.func87 rfl ok87 (by simp [Tryz.f87]) ?_;(conv=>whnf);refine ak.m (Ec A true) (by simp [ax]) λv h1 k1 hv=>?_;obtain ⟨rfl,A1⟩:=hv;rw [hc1];rw [hc2] at A1;have O1:l7 h1 L { M with calls:=IntKind.i64.wrap (M.calls+1) }:=O.keep k1 (λb hb=>by simp;exact (A.ap2 b hb).1);(conv=>whnf);refine aj.f rfl ?_;(conv=>whnf);refine au.o A1.obj rfl ?_;(conv=>whnf);refine aQ.range rfl A1.way λit hR ei si ki IR=>?_;have AR:=A1.on ki;have OR:l7 hR L { M with calls:=IntKind.i64.wrap (M.calls+1) }:=Own.keep O1 ki (by simp);have bl:=A1.blt;have hwn:=Gp A1.way;generalize hM1:({ M with calls:=IntKind.i64.wrap (M.calls+1) }:aS)=M1 at *;have hread1:∀ i,M1.read i=M.read i:=λi=>by subst hM1;rfl
 have hsure1:M1.sure=M.sure:=by subst hM1;rfl
 have hway1:M1.way=M.way:=by subst hM1;rfl
 have hloose1:M1.loose=M.loose:=by subst hM1;rfl
 have hunt1:M1.gm = -1:=by subst hM1;exact hu
 have zu:∀ b∈L.blocks,b≠it:=λb hb=>by have:=bl b hb;omega
 (conv=>whnf);refine bO.on [0,15] [] (λq:List (Int×UInt64)×aS=>[(0,.v (.pointer (some ⟨L.m,0,none⟩))),(15,.v (.pointer (some ⟨it,0,none⟩)))])
  (λ_=>[]) (λq h'=>Keeps (it::L.blocks) hR h'/\(∃ last,ow h' it L.wb (fF q.1) last)/\fM h' L q.2/\l7 h' L q.2/\q.2.gm = -1/\q.2.sure.length=M.sure.length/\(∀ i,q.2.read i=M.read i)/\(q.1.map (·.1)).Nodup/\(∀ p∈q.1,lk q.2.loose p.1=some p.2/\q.2.there p.1=true)/\(∀ x,lk q.2.loose x≠none->lk M.loose x≠none/\(lk M.way x=none\/x∈q.1.map (·.1)))) (λq=>q.1.length) (M1.way,M1) ?_ ?_
 ·(conv=>whnf);refine ⟨(M1.way,M1),rfl,rfl,rfl,Keeps.refl _ _,⟨none,IR⟩,AR,OR,hunt1,by rw [hsure1],hread1,hwn,λp hp=>?_,λx hx=>?_⟩
  ·rw [hway1] at hp;have:=hw p hp;rw [hloose1];refine ⟨this.1,?_⟩;unfold aS.there;rw [hsure1];exact this.2
  ·rw [hloose1] at hx;refine ⟨hx,?_⟩;rw [hway1];cases hl:lk M.way x with
   | none=>exact .inl rfl
   | some v=>exact .inr (Xf hl)
 ·rintro ⟨R,N⟩ h2 ⟨k2,⟨last,I2⟩,A2,O2,u2,s2,r2,n2,w2,y2⟩;simp only at I2 A2 O2 u2 s2 r2 n2 w2 y2;have Xh:it≠L.wb:=λe=>zu L.wb (by simp [ML.blocks]) e.symm;(conv=>whnf);refine aQ.next I2 (by simp [ax]) Xh (λhR0=>?_) (λR1 p R2 h3 hRR s3 k3 I3=>?_)
  ·(conv=>whnf);refine aj.f rfl ?_;(conv=>whnf);refine au.o A2.obj rfl ?_;(conv=>whnf);refine aQ.Xj rfl A2.way (by simp [ax]) λh3 s3 M3 k3=>?_;(conv=>whnf);have a3:=A2.ap3;refine ⟨?_,rfl,{ N with way:=[] },⟨k3.obj A2.obj (by simpa using a3.2),A2.sure.jH k3 (λb hb=>by simpa using (A2.ap2 b hb).2.2),A2.loose.keep k3 (by simpa using A2.ap1),M3,A2.ap1,A2.ap2,λb hb=>Nat.lt_of_lt_of_le (A2.lt b hb) k3.size⟩,Own.keep O2 k3 (λb hb=>by simpa using (A2.ap2 b hb).2.2),u2,s2,rfl,r2,λx hx=>?_⟩
   rotate_left
   ·obtain ⟨y3,y4⟩:=y2 x hx;refine ⟨y3,?_⟩;rcases y4 with h|h
    ·exact h
    ·have hR1:R=[]:=Xg hR0;rw [hR1] at h;simp at h
   have ka:Keeps L.blocks h hR:=(k1.mono (by simp [ML.blocks])).bX ki;have kb:Keeps L.blocks h h2:=ka.gL k2 (λx hx=>by
    rcases List.mem_cons.1 hx with rfl|hx
    ·right;have:=k1.size;omega
    ·exact .inl hx)
   exact kb.trans (k3.mono (by simp [ML.blocks]))
  ·obtain ⟨m1,q,m2,rfl,rfl,rfl,rfl⟩:=K9 hRR;obtain ⟨ql,qt⟩:=w2 q (by simp);(conv=>whnf);refine aj.t rfl ?_;(conv=>whnf);refine aQ.entry I3 ?_;have A3:=A2.keep k3 (λb hb=>by simp;exact zu b hb);have O3:l7 h3 L N:=Own.keep O2 k3 (λb hb=>by simp;exact zu b (by simp [ML.blocks,hb]));(conv=>whnf);refine au.o A3.obj rfl ?_;have hq0:0<=q.1/\q.1<N.sure.length:=by simpa [aS.there] using qt
   have hlen:=A3.sure.hlen;have hO:=O3;rcases hO with ⟨_,h0,_⟩|⟨b,cs,hb,ob,ht,hcl,hll,hcc⟩
   ·omega
   obtain ⟨i,hi⟩:∃ i:Nat,q.1=(i:Int):=⟨q.1.toNat,by omega⟩;have hi1:i<N.sure.length:=by omega
   have Gq:b∈ay L.sa:=by rw [hb];simp [ay]
   have ap:=A2.ap2 b Gq;(conv=>whnf);refine aV.i i (by exact hi) (by omega) hb ?_;(conv=>whnf);refine dM.i ob ?_ (by simp [ax]) λh4 s4 o4 k4=>?_
   ·show 0+i*1+1<=cs.length;omega
   have hset:(cs.set i (wv q.2)).take (N.sure.set i q.2).length=(N.sure.set i q.2).map wv:=by
    rw [List.length_set,List.take_set,List.map_set];rw [List.length_map] at ht;rw [ht]
   have mU:h4[b]?=some (.cells ⟨cs.set i (wv q.2)⟩ 46 (0,0)):=by
    rw [o4];have e:bE (0+i*1) [wv q.2] cs=cs.set i (wv q.2):=by
     rw [show 0+i*1=i by omega,xW _ _ _ (by omega)]
    exact congrArg (λx=>some (Obj.cells ⟨x⟩ 46 (0,0))) e
   have O4:l7 h4 L { N with sure:=N.sure.set i q.2 }:=.inr ⟨b,_,hb,mU,by simpa using hset,by rw [List.length_set];exact hcl,by simpa using hll,hcc⟩;have kb4:∀ x∈L.blocks,x≠b->x∉[b]:=λx _ hx=>by simpa using hx
   have A4:fM h4 L { N with sure:=N.sure.set i q.2 }:=⟨k4.obj A3.obj (by simpa using λe=>ap.1 e.symm),Xc O4 (by rw [List.length_set];omega),A3.loose.keep k4 (by simpa using λe=>ap.2.1 e.symm),A3.way.keep k4 (by simpa using λe=>ap.2.2 e.symm),A3.ap1,A3.ap2,λx hx=>Nat.lt_of_lt_of_le (A3.lt x hx) k4.size⟩;(conv=>whnf);refine au.o A4.obj rfl ?_;(conv=>whnf);refine gH.is A4.loose (by rw [qM,ql]) ?_;(conv=>whnf);(try refine aU.pass ?_;conv=>whnf);refine aj.t (by simp) ?_;(conv=>whnf);refine au.o A4.obj rfl ?_;(conv=>whnf);refine aQ.del rfl rfl A4.loose (n:=q.1) (by rw [qM,ql];simp) (by simp [ax]) λh5 j hj hjn s5 M5 k5=>?_;have Xk:(N.loose[j]?).map (·.1)=some q.1:=by
    have:((fF N.loose)[j]?).map (·.1)=some q.1:=hjn;unfold fF at this;rw [List.getElem?_map,Option.map_map] at this;exact this
   have hln:=Gp A4.loose;rw [Xe] at M5;have a3:=A3.ap3;(conv=>whnf);refine ⟨(m1++m2).length,by simp,?_⟩;(conv=>whnf);have hN5:∀ x,lk (N.loose.eraseIdx j) x=if x=q.1 then none else lk N.loose x:=λx=>Xd hln Xk x;refine ⟨(m1++m2,{ N with sure:=N.sure.set i q.2,loose:=N.loose.eraseIdx j }),rfl,rfl,rfl,?_,⟨some (q.1,wv q.2),?_⟩,⟨k5.obj A4.obj (by simpa using a3.1),A4.sure.jH k5 (λx hx=>by simpa using (A3.ap2 x hx).2.1),M5,A4.way.keep k5 (by simpa using A3.ap1.symm),A3.ap1,A3.ap2,λx hx=>Nat.lt_of_lt_of_le (A4.lt x hx) k5.size⟩,Own.keep O4 k5 (λx hx=>by simpa using (A3.ap2 x hx).2.1),u2,by simp only [List.length_set];exact s2,λx=>?_,?_,λp hp=>?_,λx hx=>?_⟩
   ·exact ((k2.trans (k3.mono (by simp))).trans (k4.mono (by simp;right;simp [ML.blocks,Gq]))).trans (k5.mono (by simp [ML.blocks]))
   ·have:fF m1++fF m2=fF (m1++m2):=List.map_append.symm;have Xl:ow h3 it L.wb (fF (m1++m2)) (some (q.1,wv q.2)):=by rw [<-this];exact I3
    refine (Xl.keep k4 ?_ (by simpa using λe=>ap.2.2 e.symm)).keep k5 ?_ (by simpa using A3.ap1.symm)
    ·have:=zu b (by simp [ML.blocks,Gq]);simpa using λe=>this e.symm
    ·have:=zu L.lb (by simp [ML.blocks]);simpa using λe=>this e.symm
   ·rw [<-r2 x];unfold aS.read aS.there;simp only [List.length_set];split
    ·rename_i hx;rw [hN5];by_cases e:x=q.1
     ·rw [if_pos e,e,ql,hi];simp [hi1]
     ·rw [if_neg e];have hne:x.toNat≠i:=by
       intro e2;apply e;have:0<=x:=by simp at hx;exact hx.1
       omega
      rw [List.getElem?_set_ne (λe=>hne e.symm)]
    ·rfl
   ·have:(m1++q::m2).map (·.1)=m1.map (·.1)++q.1::m2.map (·.1):=by simp
    rw [this] at n2;rw [List.map_append];exact (List.nodup_cons.1 (Np.1 n2)).2
   ·have hp':p∈m1++q::m2:=by
     simp only [List.mem_append,List.mem_cons] at hp ⊢;rcases hp with h|h
     ·exact .inl h
     ·exact .inr (.inr h)
    obtain ⟨p1,p2⟩:=w2 p hp';refine ⟨?_,?_⟩
    ·show lk (N.loose.eraseIdx j) p.1=some p.2;have hne:p.1≠q.1:=by
      intro e;have:(m1++q::m2).map (·.1)=m1.map (·.1)++q.1::m2.map (·.1):=by simp
      rw [this] at n2;have hnq:=Np.1 n2;rw [List.nodup_cons] at hnq;apply hnq.1;rw [<-e,<-List.map_append];exact List.mem_map.2 ⟨p,hp,rfl⟩
     rw [hN5,if_neg hne];exact p1
    ·unfold aS.there at p2 ⊢;simp only [List.length_set];exact p2
   ·have hx:lk (N.loose.eraseIdx j) x≠none:=hx;rw [hN5] at hx;have hne:x≠q.1:=by
     intro e;rw [if_pos e] at hx;exact hx rfl
    rw [if_neg hne] at hx;obtain ⟨y3,y4⟩:=y2 x hx;refine ⟨y3,?_⟩;rcases y4 with h|h
    ·exact .inl h
    ·right
     simp only [List.map_append,List.map_cons,List.mem_append,List.mem_cons] at h ⊢;rcases h with h|h|h
     ·exact .inl h
     ·exact absurd h hne
     ·exact .inr h
def pI:List UInt64:=([7021221306412823411,2824,0,0,0,0,0,0]:List UInt64)++(List.replicate 8 0++(fJ (cu 2 1)++List.replicate 2800 0))
theorem WV:pI.length=2824:=by
 unfold pI;simp [fJ]
theorem WT (h:Heap):aB Tryz.prog 83 [] h (λv h'=>Keeps [] h h'/\∃ b,v=.slice (some ⟨b,0,none⟩) 2824 2824/\h.size<=b/\h'[b]?=some (.cells ⟨pI.map wv⟩ 46 (0,0))):=by
 refine aG aH Tryz.func83 rfl ok83 (by simp [Tryz.f83]) ?_;(conv=>whnf);refine ak.i (DC h) λv h1 k1 hv=>?_;subst hv;(conv=>whnf);refine aQ.make (n:=2824) rfl rfl rfl rfl rfl (by decide) (by decide) λb2 h2 e2 s2 o2 k2=>?_;(conv=>whnf);refine ak.i (QI h2) λv h3 k3 hv=>?_;obtain ⟨b3,rfl,hb3,_,o3⟩:=hv;have z1:=k1.size;have z2:=k2.size;have z3:=k3.size;have Nn:(([7021221306412823411,2824,0,0,0,0,0,0]:List UInt64).map wv).length=8:=rfl;(conv=>whnf);refine aQ.copy (sz:=1) (new:=([7021221306412823411,2824,0,0,0,0,0,0]:List UInt64).map wv) rfl rfl rfl (k3.obj o2 (by simp)) rfl (λj hj=>by simp only [Heap.cell?,o3];simp) (tJ _) (by rw [Nn,List.length_replicate];decide) (by simp [ax]) λh4 s4 o4 k4=>?_;have hz:List.replicate 2824 (Value.int .u64 0)=List.replicate 8 (.int .u64 0)++(List.replicate 8 (.int .u64 0)++(List.replicate 8 (.int .u64 0)++List.replicate 2800 (.int .u64 0))):=by
  rw [List.replicate_append_replicate,List.replicate_append_replicate,List.replicate_append_replicate]
 have e4:bE 0 (([7021221306412823411,2824,0,0,0,0,0,0]:List UInt64).map wv) (List.replicate 2824 (.int .u64 0))=(([7021221306412823411,2824,0,0,0,0,0,0]:List UInt64).map wv)++(List.replicate 8 (.int .u64 0)++(List.replicate 8 (.int .u64 0)++List.replicate 2800 (.int .u64 0))):=by
  rw [hz];have:=Am (A:=([7021221306412823411,2824,0,0,0,0,0,0]:List UInt64).map wv) (x:=Value.int .u64 0) (B:=List.replicate 8 (.int .u64 0)++(List.replicate 8 (.int .u64 0)++List.replicate 2800 (.int .u64 0)));rw [Nn] at this;exact this
 rw [e4] at o4;(conv=>whnf);refine ak.i (FH 2 1 h4) λv h5 k5 hv=>?_;rw [if_pos (by decide)] at hv;subst hv;(conv=>whnf);refine aO.i λb6 h6 e6 s6 o6 k6=>?_;(conv=>whnf);refine aM.i λh7 s7 k7=>?_;have k47:Keeps [] h4 h7:=(k5.trans k6).new1 k7 (by have:=k5.size;omega);obtain ⟨fo,fr⟩:=BH (kind:=2) (by decide) 1;(conv=>whnf);refine ak.i (FD (cu 2 1) fo h7) λv h8 k8 hv=>?_;rw [if_pos fr] at hv;obtain ⟨b8,rfl,hb8,o8⟩:=hv;(conv=>whnf);refine ak.i (tN 1 h8) λv h9 k9 hv=>?_;subst hv;(conv=>whnf);refine di.i 16 2824 rfl rfl (by decide) (by decide) ?_;(conv=>whnf);have eA:jd (some ⟨b2,0,none⟩) 2824 16 1=some ⟨b2,0+16*1,none⟩:=by
  unfold jd;rw [if_neg (by omega)];simp [addr_add]
 have W9:jd (some ⟨b2,0,none⟩) 2824 16 Tryz.prog.types[46].size=some ⟨b2,0+16*1,none⟩:=eA;rw [W9];have k49:=k47.trans (k8.trans k9);have hcw:(fJ (cu 2 1)).length=8:=rfl;refine aQ.copy (sz:=1) (new:=(fJ (cu 2 1)).map wv) rfl rfl rfl (k49.obj o4 (by simp)) (by rw [List.length_map];rfl) (λj hj=>by simp only [Heap.cell?,k9.obj o8 (by simp)];simp) (tJ _) (by simp [hcw]) ?_ λh10 s10 o10 k10=>?_
 ·have:=k3.size;have:=k4.size;have:=k5.size;simp [ax,aZ];omega
 (conv=>whnf);have e10:bE (0+16*1) ((fJ (cu 2 1)).map wv) (([7021221306412823411,2824,0,0,0,0,0,0]:List UInt64).map wv++(List.replicate 8 (.int .u64 0)++(List.replicate 8 (.int .u64 0)++List.replicate 2800 (.int .u64 0))))=pI.map wv:=by
  have h1:([7021221306412823411,2824,0,0,0,0,0,0]:List UInt64).map wv++(List.replicate 8 (Value.int .u64 0)++(List.replicate 8 (.int .u64 0)++List.replicate 2800 (.int .u64 0)))=(([7021221306412823411,2824,0,0,0,0,0,0]:List UInt64).map wv++List.replicate 8 (.int .u64 0))++(List.replicate 8 (.int .u64 0)++List.replicate 2800 (.int .u64 0)):=by rw [List.append_assoc]
  rw [h1];have h2:=JH (A:=([7021221306412823411,2824,0,0,0,0,0,0]:List UInt64).map wv++List.replicate 8 (.int .u64 0)) (N:=(fJ (cu 2 1)).map wv) (L:=List.replicate 8 (.int .u64 0)++List.replicate 2800 (.int .u64 0));have hl:(([7021221306412823411,2824,0,0,0,0,0,0]:List UInt64).map wv++List.replicate 8 (Value.int .u64 0)).length=0+16*1:=by simp
  rw [hl] at h2;rw [h2];have h3:=Am (A:=(fJ (cu 2 1)).map wv) (x:=Value.int .u64 0) (B:=List.replicate 2800 (.int .u64 0));rw [List.length_map,hcw] at h3;rw [h3];unfold pI;simp only [List.map_append,List.map_replicate,List.append_assoc];rfl
 rw [e10] at o10;refine ⟨?_,b2,rfl,by omega,o10⟩;exact ((k1.trans (k2.trans k3)).new1 k4 (by omega)).trans k49 |>.new1 k10 (by omega)
def fw (i:Int):UInt64:=if 0<=i/\i<2824 then pI[i.toNat]?.getD 0 else 0
theorem Xa {i:Int}:fw i=if i=0 then 7021221306412823411 else if i=1 then 2824 else if 16<=i/\i<24 then (fJ (cu 2 1))[(i-16).toNat]?.getD 0 else 0:=by
 unfold fw;by_cases h:0<=i/\i<2824
 ·rw [if_pos h];obtain ⟨n,rfl⟩:∃ n:Nat,i=(n:Int):=⟨i.toNat,by omega⟩;rw [Int.toNat_natCast];unfold pI;have hl0:([7021221306412823411,2824,0,0,0,0,0,0]:List UInt64).length=8:=rfl;have hl2:(fJ (cu 2 1)).length=8:=rfl;by_cases h8:n<8
  ·rw [List.getElem?_append_left (by rw [hl0];exact h8)];have:n=0\/n=1\/n=2\/n=3\/n=4\/n=5\/n=6\/n=7:=by omega
   rcases this with rfl|rfl|rfl|rfl|rfl|rfl|rfl|rfl <;> rfl
  ·rw [List.getElem?_append_right (by rw [hl0];omega),hl0,if_neg (by omega),if_neg (by omega)];by_cases h16:n<16
   ·rw [List.getElem?_append_left (by simp;omega),if_neg (by omega),List.getElem?_replicate,if_pos (by omega)];rfl
   ·rw [List.getElem?_append_right (by simp;omega),List.length_replicate];by_cases h24:n<24
    ·rw [List.getElem?_append_left (by rw [hl2];omega),if_pos (by omega)]
     congr 2
     omega
    ·rw [List.getElem?_append_right (by rw [hl2];omega),if_neg (by omega),List.getElem?_replicate];split <;> rfl
 ·rw [if_neg h,if_neg (by omega),if_neg (by omega),if_neg (by omega)]
def S0:FS:=⟨λn=>if n=1 then cu 2 1 else fZ 0,λ_=>[],λ_=>[]⟩
theorem Gr {k:Int}(h0:0<=k):fw (200+k)=0:=by
 rw [Xa,if_neg (by omega),if_neg (by omega),if_neg (by omega)]
theorem Xq:∀ n:Fin 24,bU fw (8+(n.val:Int)*8) 8=fJ (if (n.val:Int)=1 then cu 2 1 else fZ 0):=by decide +kernel
theorem fs0:bH fw S0:=by
 have hno:∀ n:Int,0<=n->n<24->∀ x,0<=x->x<96->fw (200+x)≠w64 (n+1):=by
  intro n n0 n1 x x0 x1 e;rw [Gr x0] at e;have h1:(w64 (n+1)).toNat=(n+1).toNat:=by
   unfold w64;rw [UInt64.toNat_ofNat'];omega
  rw [<-e] at h1;have:(0:UInt64).toNat=0:=rfl;omega
 refine ⟨λn n0 n1=>?_,λn n0 n1=>?_,rfl,λk k0 k1=>.inl (Gr k0)⟩
 ·have:=Xq ⟨n.toNat,by omega⟩;simp only [Int.toNat_of_nonneg n0] at this;exact this
 ·by_cases h:n=1
  ·have:S0.C n=cu 2 1:=if_pos h;rw [this];exact G6 (by decide) 1 (hno n n0 n1)
  ·have:S0.C n=fZ 0:=if_neg h;rw [this];exact zJ 0 (hno n n0 n1)
theorem Xr (s m a n:List Int)(ha:a=[]):bD fw ⟨fw,s,m,a,n⟩ 96=96:=by
 subst ha;unfold bD;rw [List.filter_eq_self.2 (λj hj=>?_),List.length_range];have hj:=List.mem_range.1 hj;unfold iE;have h0:fw (200+(j:Int))=0:=Gr (by omega);simp [h0];omega
set_option maxHeartbeats 4000000
structure l8 (S:FS)(K:Int->Int)(NM:Int->List aD)(BY:Int->List UInt8):Prop where
 k:∀ i,(S.C i).kind=K i
 n:∀ i,S.nm i=NM i
 b:∀ i,S.aL i=BY i
def vf (K:Int->Int)(NM:Int->List aD)(BY:Int->List UInt8):Fs:=⟨K,λi name=>(bV (NM i) name).map (·.node),BY⟩
theorem l8.view {S:FS}{K:Int->Int}{NM:Int->List aD}{BY:Int->List UInt8}(Z:l8 S K NM BY):aX S=vf K NM BY:=by
 have h1:(λi=>(S.C i).kind)=K:=funext Z.k;have h2:S.nm=NM:=funext Z.n;have h3:S.aL=BY:=funext Z.b;unfold aX vf;rw [h1,h2,h3]
theorem l8.fc {S:FS}{K:Int->Int}{NM:Int->List aD}{BY:Int->List UInt8}(Z:l8 S K NM BY)(h1:K 1=2)(h:∀ n:Fin 24,K (n.val:Int)=2->∀ e∈NM (n.val:Int),0<=e.node/\e.node<24/\K e.node≠0):gu S:=by
 refine ⟨(Z.k 1).trans h1,λn n0 n1 hk e he=>?_⟩;have:=h ⟨n.toNat,by omega⟩;simp only [Int.toNat_of_nonneg n0] at this;rw [Z.n] at he;have:=this ((Z.k n).symm.trans hk) e he;rw [Z.k];exact this
theorem l8.ns {S:FS}{K:Int->Int}{NM:Int->List aD}{BY:Int->List UInt8}(Z:l8 S K NM BY)(h:∀ n:Fin 24,K (n.val:Int)=2->∀ e∈NM (n.val:Int),e.node≠(n.val:Int)):wG S:=by
 intro n n0 n1 hk e he;have:=h ⟨n.toNat,by omega⟩;simp only [Int.toNat_of_nonneg (show 0<=n by omega)] at this;rw [Z.n] at he;exact this ((Z.k n).symm.trans hk) e he
theorem Ns {B:Int->UInt64}{X X':VS}{S:FS}{K:Int->Int}{NM:Int->List aD}{BY:Int->List UInt8}{path data nm:List UInt8}{kind n1:Int}{v:Value}(Z:l8 S K NM BY)(hp:bB (vf K NM BY) path=(1,nm,0,0))
 (hfree:8<=bD B X 96) (hlen:(NM 1).length<10) (hn:2<=n1/\n1<24/\K n1=0) (hl:∀ k:Fin 24,2<=(k.val:Int)->(k.val:Int)<n1->K (k.val:Int)≠0) (R:lF B X S path kind data v X') :
 v=.int .i64 0/\X'.away=X.away/\X'.bF=X.bF/\bD B X 96<=bD B X' 96+8/\∃ S',bH X'.now S' /\
  l8 S' (λi=>if i=1 then 2 else if i=n1 then kind else K i) (λi=>if i=1 then bC (NM 1) ⟨nm,n1⟩ else if i=n1 then [] else NM i) (λi=>if i=1 then BY 1 else if i=n1 then data else BY i) /\
  (S'.C n1).links=1/\∀ i,i≠1->i≠n1->S'.C i=S.C i:=by
 obtain ⟨e1,e2,H⟩:=R;have hv:=Z.view;rw [hv] at H;rcases H with ⟨he,_⟩|⟨d,gN,nd,P,H⟩
 ·rw [hp] at he;exact absurd rfl he
 ·have hP:=P.is;rw [hv,hp] at hP;obtain ⟨t1,t2⟩:=Prod.mk.inj hP;obtain ⟨t2,t3⟩:=Prod.mk.inj t2;obtain ⟨t3,_⟩:=Prod.mk.inj t3;subst t1 t2 t3;rcases H with ⟨hnd,_⟩|⟨_,_,hc⟩|⟨_,hv0,hm,hf,n,Mk⟩
  ·exact absurd rfl hnd
  ·exfalso;rcases hc with hc|hc|hc
   ·omega
   ·rw [Z.n] at hc;omega
   ·exact hc n1 hn.1 hn.2.1 ((Z.k n1).trans hn.2.2)
  ·have hne:n=n1:=by
    have h1:=Mk.was;rw [Z.k] at h1;have h2:=Mk.bG;rcases Int.lt_trichotomy n n1 with h|h|h
    ·have:=hl ⟨n.toNat,by omega⟩;simp only [Int.toNat_of_nonneg (show 0<=n by omega)] at this;exact absurd h1 (this h2.1 h)
    ·exact h
    ·exact absurd ((Z.k n1).trans hn.2.2) (Mk.least n1 hn.1 h)
   subst hne;obtain ⟨c2,c1,k1,k2,k3,k4,I⟩:=Mk.fs;have hn1:n≠1:=by have:=hn.1;omega
   refine ⟨hv0,e1,e2,hf,_,I,⟨λi=>?_,λi=>?_,λi=>?_⟩,?_,λi h1 h2=>?_⟩
   ·show (if i=1 then c1 else if i=n then c2 else S.C i).kind=_;by_cases h1:i=1
    ·rw [if_pos h1,if_pos h1];exact k3
    ·rw [if_neg h1,if_neg h1];by_cases h2:i=n
     ·rw [if_pos h2,if_pos h2];exact k1
     ·rw [if_neg h2,if_neg h2];exact Z.k i
   ·show (if i=1 then bC (S.nm 1) ⟨nm,n⟩ else if i=n then [] else S.nm i)=_;rw [Z.n 1,Z.n i]
   ·show (if i=1 then S.aL 1 else if i=n then data else S.aL i)=_;rw [Z.b 1,Z.b i]
   ·show (if n=1 then c1 else if n=n then c2 else S.C n).links=1;rw [if_neg hn1,if_pos rfl];exact k2
   ·show (if i=1 then c1 else if i=n then c2 else S.C i)=_;rw [if_neg h1,if_neg h2]
def K0 (i:Int):Int:=if i=1 then 2 else 0
def N0 (i:Int):List aD:=[]
def B0 (i:Int):List UInt8:=[]
def K1 (i:Int):Int:=if i=1 then 2 else if i=2 then 1 else K0 i
def N1 (i:Int):List aD:=if i=1 then bC (N0 1) ⟨[102],2⟩ else if i=2 then [] else N0 i
def B1 (i:Int):List UInt8:=if i=1 then B0 1 else if i=2 then [] else B0 i
def K2 (i:Int):Int:=if i=1 then 2 else if i=3 then 3 else K1 i
def N2 (i:Int):List aD:=if i=1 then bC (N1 1) ⟨[108],3⟩ else if i=3 then [] else N1 i
def B2 (i:Int):List UInt8:=if i=1 then B1 1 else if i=3 then [47,102] else B1 i
def B3 (i:Int):List UInt8:=if i=2 then [104,105] else B2 i
def K4 (i:Int):Int:=if i=3 then 0 else if i=1 then 2 else K2 i
def N4 (i:Int):List aD:=if i=3 then [] else if i=1 then (N2 1).eraseIdx (aP (N2 1) [108]) else N2 i
def B4 (i:Int):List UInt8:=if i=3 then [] else if i=1 then B3 1 else B3 i
theorem sim0:l8 S0 K0 N0 B0:=⟨λi=>by
 show (if i=1 then cu 2 1 else fZ 0).kind=if i=1 then 2 else 0;by_cases h:i=1
 ·rw [if_pos h,if_pos h];rfl
 ·rw [if_neg h,if_neg h];rfl,λ_=>rfl,λ_=>rfl⟩
theorem pl0:bB (vf K0 N0 B0) [47,102]=(1,[102],0,0):=by decide +kernel
theorem pl1:bB (vf K1 N1 B1) [47,108]=(1,[108],0,0):=by decide +kernel
theorem pa2:aR (vf K2 N2 B2) [47,108] true=(2,0):=by decide +kernel
theorem pl3:bB (vf K2 N2 B3) [47,108]=(1,[108],3,0):=by decide +kernel
theorem pa4:aR (vf K4 N4 B4) [47,102] true=(2,0):=by decide +kernel
theorem pb4:aR (vf K4 N4 B4) [47,102] false=(2,0):=by decide +kernel
theorem fc0:∀ n:Fin 24,K0 (n.val:Int)=2->∀ e∈N0 (n.val:Int),0<=e.node/\e.node<24/\K0 e.node≠0:=by decide +kernel
theorem fc1:∀ n:Fin 24,K1 (n.val:Int)=2->∀ e∈N1 (n.val:Int),0<=e.node/\e.node<24/\K1 e.node≠0:=by decide +kernel
theorem fc2:∀ n:Fin 24,K2 (n.val:Int)=2->∀ e∈N2 (n.val:Int),0<=e.node/\e.node<24/\K2 e.node≠0:=by decide +kernel
theorem ns2:∀ n:Fin 24,K2 (n.val:Int)=2->∀ e∈N2 (n.val:Int),e.node≠(n.val:Int):=by decide +kernel
theorem fc4:∀ n:Fin 24,K4 (n.val:Int)=2->∀ e∈N4 (n.val:Int),0<=e.node/\e.node<24/\K4 e.node≠0:=by decide +kernel
theorem XC {B:Int->UInt64}{X X':VS}{S:FS}{v:Value}(Z:l8 S K2 N2 B2)(hfree:2<=bD B X 96)(R:sM B X S [47,108] 0 [104,105] v X') :
 v=.int .i64 0/\X'.away=X.away/\X'.bF=X.bF/\∃ S',bH X'.now S'/\l8 S' K2 N2 B3/\(S'.C 2).links=(S.C 2).links/\S'.C 3=S.C 3:=by
 obtain ⟨e1,e2,H⟩:=R;have hp:cK S [47,108]=(2,0):=by unfold cK;rw [Z.view];exact pa2
 have hk:(S.C 2).kind=1:=by rw [Z.k];decide +kernel
 have he:gq S [47,108]=0:=by
  unfold gq;rw [hp,if_neg (by rintro ⟨_,h⟩;rw [hk] at h;cases h)]
 have hb:S.aL 2=[]:=by rw [Z.b];decide +kernel
 rw [he,hp] at H;simp only [hb] at H;have hr:eU [] 0 [104,105]=([104,105],0):=by decide +kernel
 rw [hr] at H;rcases H with ⟨h,_⟩|⟨_,h,_⟩|⟨_,_,_,h⟩|⟨_,_,hv,_,c',hc1,hc2,I⟩
 ·exact absurd rfl h
 ·exact absurd rfl h
 ·exfalso;have:((0:Int).toNat+[(104:UInt8),105].length+127)/128-(0:Int).toNat/128+1=2:=by decide
  omega
 ·refine ⟨hv,e1,e2,_,I,⟨λi=>?_,λi=>?_,λi=>?_⟩,?_,?_⟩
  ·show (if i=2 then c' else S.C i).kind=_;by_cases h:i=2
   ·rw [if_pos h,h,hc1];exact Z.k 2
   ·rw [if_neg h];exact Z.k i
  ·show (if i=2 then S.nm 2 else S.nm i)=_;by_cases h:i=2
   ·rw [if_pos h,h];exact Z.n 2
   ·rw [if_neg h];exact Z.n i
  ·show (if i=2 then [104,105] else S.aL i)=_;unfold B3;rw [Z.b i]
  ·show (if (2:Int)=2 then c' else S.C 2).links=_;rw [if_pos rfl];exact hc2
  ·show (if (3:Int)=2 then c' else S.C 3)=_;rw [if_neg (by decide)]
theorem XD {X X':VS}{S:FS}{v:Value}(Z:l8 S K2 N2 B3)(hl:(S.C 3).links=1)(R:nS X S [47,108] qh v X') :
 v=.int .i64 0/\X'.away=X.away/\X'.bF=X.bF/\∃ S',bH X'.now S'/\l8 S' K4 N4 B4/\S'.C 2=S.C 2:=by
 obtain ⟨e1,e2,H⟩:=R;have hv:=Z.view;rw [hv] at H;rcases H with ⟨he,_⟩|⟨d,gN,nd,P,H⟩
 ·rw [pl3] at he;exact absurd rfl he
 ·have hP:=P.is;rw [hv,pl3] at hP;obtain ⟨t1,t2⟩:=Prod.mk.inj hP;obtain ⟨t2,t3⟩:=Prod.mk.inj t2;obtain ⟨t3,_⟩:=Prod.mk.inj t3;subst t1 t2 t3;have hk:(S.C 3).kind=3:=by rw [Z.k];decide +kernel
  have hm:qh (S.C 3)=0:=by
   unfold qh;rw [hk,if_neg (by decide)]
  rcases H with ⟨h,_⟩|⟨_,h,_⟩|⟨_,_,hv0,_,c1,k1,_,⟨h,_⟩|⟨_,vv,I⟩⟩
  ·cases h
  ·exact absurd hm h
  ·omega
  ·refine ⟨hv0,e1,e2,_,I,⟨λi=>?_,λi=>?_,λi=>?_⟩,?_⟩
   ·show (if i=3 then fZ vv else if i=1 then c1 else S.C i).kind=_;unfold K4;by_cases h3:i=3
    ·rw [if_pos h3,if_pos h3];rfl
    ·rw [if_neg h3,if_neg h3];by_cases h1:i=1
     ·rw [if_pos h1,if_pos h1];exact k1
     ·rw [if_neg h1,if_neg h1];exact Z.k i
   ·show (if i=3 then [] else if i=1 then (S.nm 1).eraseIdx (aP (S.nm 1) [108]) else S.nm i)=_;unfold N4;rw [Z.n 1,Z.n i]
   ·show (if i=3 then [] else if i=1 then S.aL 1 else S.aL i)=_;unfold B4;rw [Z.b 1,Z.b i]
   ·show (if (2:Int)=3 then fZ vv else if (2:Int)=1 then c1 else S.C 2)=_;rw [if_neg (by decide),if_neg (by decide)]
def L0:List bS:=[⟨⟨0,0,0,[],[]⟩,none,0,0⟩,⟨⟨1,2,1,[],[]⟩,none,0,0⟩]
theorem Xt (h:Heap):aB Tryz.prog 40 [] h (λv h'=>Keeps [] h h'/\∃ bT t,v=.pointer (some ⟨t,0,none⟩)/\h.size<=bT/\h.size<=t/\h'[t]?=some (.cells ⟨[.slice (some ⟨bT,0,none⟩) 2 2]⟩ 80 (0,0))/\h'[bT]?=some (.cells ⟨fU L0⟩ 77 (0,0))):=by
 refine aG aH Tryz.func40 rfl ok40 (by simp [Tryz.f40]) ?_;(conv=>whnf);refine aO.i λb1 h1 e1 s1 o1 k1=>?_;(conv=>whnf);refine aO.i λb2 h2 e2 s2 o2 k2=>?_;(conv=>whnf);exact ⟨k1.trans k2,b1,b2,rfl,by omega,by omega,o2,k2.obj o1 (by simp)⟩
structure sV (B:Int->UInt64)(at_:Nat)(N:aS):Prop where
 u:N.gm = -1
 len:N.sure.length=2824
 read:∀ i,N.read i=if i<at_ then fw i else B i
 way:∀ i,lk N.way i=lk N.loose i
 bG:∀ i,lk N.loose i≠none->0<=i/\i<2824
theorem Gn {N:aS}(hu:N.gm = -1)(t:Bool):N.call t=(if t then 0 else 1,{ N with calls:=IntKind.i64.wrap (N.calls+1) }):=by
 unfold aS.call;rw [hu];cases t <;> rfl
theorem WM {i:Int}(hi:0<=i):l6 i<=i/\i<l6 i+8:=by
 unfold l6;rw [Int.tmod_eq_emod_of_nonneg hi];omega
theorem sV.step {B:Int->UInt64}{a:Nat}{N:aS}(I:sV B a N)(ha:a<2824):∀ (c1 c2:Int),sV B (a+1) { N with calls:=c2,loose:=gU N.loose a (fw a),way:=kQ (gU N.loose a (fw a)) N.way (l6 a) 8 }:=by
 intro c1 c2;have hl:=WM (i:=(a:Int)) (by omega);refine ⟨I.u,I.len,λi=>?_,λi=>?_,λi hi=>?_⟩
 ·have hr:=I.read i;unfold aS.read aS.there at hr ⊢;simp only at hr ⊢;rw [rW];by_cases e:i=(a:Int)
  ·rw [if_pos e];have h1:(decide (0<=i)&&decide (i<(N.sure.length:Int)))=true:=by rw [I.len];simp;omega
   rw [if_pos h1,if_pos (by omega),e];rfl
  ·rw [if_neg e,hr];by_cases h2:i<(a:Int)
   ·rw [if_pos h2,if_pos (by omega)]
   ·rw [if_neg h2,if_neg (by omega)]
 ·show lk (kQ _ _ _ 8) i=lk (gU _ _ _) i;rw [Nl,rW,I.way i];by_cases h1:l6 (a:Int)<=i/\i<l6 (a:Int)+((8:Nat):Int)
  ·rw [if_pos h1];by_cases e:i=(a:Int)
   ·rw [if_pos e]
   ·rw [if_neg e];cases lk N.loose i <;> rfl
  ·rw [if_neg h1,if_neg (by intro e;apply h1;omega)]
 ·have hi':lk (gU N.loose (a:Int) (fw (a:Int))) i≠none:=hi;rw [rW] at hi';by_cases e:i=(a:Int)
  ·omega
  ·rw [if_neg e] at hi';exact I.bG i hi'
theorem sV.skip {B:Int->UInt64}{a:Nat}{N:aS}(I:sV B a N)(h:N.read a=fw a):sV B (a+1) N:=by
 refine ⟨I.u,I.len,λi=>?_,I.way,I.bG⟩;by_cases e:i=(a:Int)
 ·rw [if_pos (by omega),e];exact h
 ·rw [I.read i];by_cases h2:i<(a:Int)
  ·rw [if_pos h2,if_pos (by omega)]
  ·rw [if_neg h2,if_neg (by omega)]
theorem WO {l:List (Int×UInt64)}(h:∀ x,lk l x=none):l=[]:=by
 cases l with
 | nil=>rfl
 | cons p l=>
  have:=h p.1;simp [lk] at this
theorem WQ {h:Heap}{L:ML}{M:aS}(A:fM h L M)(O:l7 h L M)(hu:M.gm = -1)(hs:M.sure.length=2824)(hl0:M.loose=[])(hw0:M.way=[]):aB Tryz.prog 38 [.pointer (some ⟨L.m,0,none⟩)] h (λv h'=>Keeps L.blocks h h'/\v=.int .i64 0 /\
 ∃ N:aS,fM h' L N/\N.gm = -1/\N.sure.length=2824/\(∀ i,N.read i=fw i)/\N.loose=[]):=by
 have bl:=A.blt;refine aG aH Tryz.func38 rfl ok38 (by simp [Tryz.f38]) ?_;(conv=>whnf);refine ak.i (WT h) λv h1 k1 hv=>?_;obtain ⟨b1,rfl,hb1,o1⟩:=hv;(conv=>whnf);refine ak.i (JN (A.on k1)) λv h2 k2 hv=>?_;subst hv;rw [hs];(conv=>whnf);refine aj.f rfl ?_;have I0:sV M.read 0 M:=⟨hu,hs,λi=>by
  by_cases h:i<((0:Nat):Int)
  ·rw [if_pos h];have h1:fw i=0:=by
    unfold fw;rw [if_neg (by omega)]
   have h2:M.there i=false:=by
    unfold aS.there;rw [decide_eq_false (by omega)];rfl
   unfold aS.read;rw [h1,h2];rfl
  ·rw [if_neg h],λi=>by rw [hl0,hw0],λi hi=>by rw [hl0] at hi;exact absurd rfl hi⟩
 have nb1:∀ b∈L.blocks,b≠b1:=λb hb=>by have:=bl b hb;omega
 have k12:=k1.trans k2;have WU:=WV;(conv=>whnf);refine bO.on [0,13,14,15] [] (λq:Nat×aS=>[(0,.v (.pointer (some ⟨L.m,0,none⟩))),(13,.v (.slice (some ⟨b1,0,none⟩) 2824 2824)),(14,.v (.int .i64 2824)),(15,.v (.int .i64 (q.1:Int)))]) (λ_=>[])
  (λq h'=>q.1<=2824/\Keeps L.blocks h h'/\h'[b1]?=some (.cells ⟨pI.map wv⟩ 46 (0,0))/\fM h' L q.2/\l7 h' L q.2/\sV M.read q.1 q.2) (λq=>2824-q.1) (0,M) ?_ ?_
 ·(conv=>whnf);exact ⟨(0,M),rfl,rfl,rfl,Nat.zero_le _,k12.mono (by simp),k2.obj o1 (by simp),A.on k12,Own.keep O k12 (by simp),I0⟩
 ·rintro ⟨a,N⟩ h3 ⟨ha,k3,o3,A3,O3,I3⟩;simp only at ha A3 O3 I3;(conv=>whnf);refine aj.i (λhc=>?_) (λhc=>?_)
  ·have ha1:a<2824:=by
    have:(a:Int)<2824:=by simpa using hc
    omega
   have hla:(pI[a]'(by omega))=fw (a:Int):=by
    unfold fw;rw [if_pos (by omega),Int.toNat_natCast,List.getElem?_eq_getElem (by omega)];rfl
   have hth:N.there (a:Int)=true:=by unfold aS.there;rw [I3.len];simp;omega
   (conv=>whnf);(try refine aU.pass ?_;conv=>whnf);refine aV.i a rfl ha1 rfl ?_;(conv=>whnf);refine au.o (v:=wv (pI[a]'(by omega))) o3 ?_ ?_
   ·rw [nD];show (pI.map wv)[0+a*1]?=_;rw [show 0+a*1=a by omega];simp [WU,ha1]
   rw [hla];(conv=>whnf);refine ak.i (Aw A3 (a:Int)) λv h4 k4 hv=>?_;subst hv;have A4:=A3.on k4;have O4:l7 h4 L N:=Own.keep O3 k4 (by simp);have o4:=k4.obj o3 (by simp);(conv=>whnf);refine aj.i (λhd=>?_) (λhd=>?_)
   ·have he:N.read (a:Int)=fw (a:Int):=by
     have:(((N.read (a:Int)).toNat:Nat):Int)=(((fw (a:Int)).toNat:Nat):Int):=by simpa using hd
     exact UInt64.toNat_inj.1 (by omega)
    (conv=>whnf);refine ⟨2824-(a+1),by omega,?_⟩;(conv=>whnf);exact ⟨(a+1,N),rfl,by rw [wrapN (x:=(a:Int)+1) (n:=a+1) (by simp) (by omega)],rfl,by simp only;omega,k3.bX k4,o4,A4,O4,I3.skip he⟩
   ·have hst:N.store (a:Int) (fw (a:Int))=(0,{ N with calls:=IntKind.i64.wrap (N.calls+1),loose:=gU N.loose (a:Int) (fw (a:Int)) }):=by
     unfold aS.store;rw [Gn I3.u,hth];rfl
    (conv=>whnf);refine ak.m (JX A4 (a:Int) (fw (a:Int))) (by simp [ax]) λv h5 k5 hv=>?_;rw [hst] at hv;obtain ⟨rfl,A5⟩:=hv;(conv=>whnf);(try refine aU.pass ?_;conv=>whnf);refine aj.t rfl ?_;have I5:=I3.step ha1;generalize hN5:({ N with calls:=IntKind.i64.wrap (N.calls+1),loose:=gU N.loose (a:Int) (fw (a:Int)) }:aS)=N5 at A5;have hth5:N5.there (a:Int)=true:=by subst hN5;exact hth
    have hu5:N5.gm = -1:=by subst hN5;exact I3.u
    have O5:l7 h5 L N5:=by
     have:l7 h5 L N:=Own.keep O4 k5 (λb hb=>by have:=A4.ap2 b hb;simp;exact ⟨this.1,this.2.1⟩);subst hN5;exact this
    have o5:=k5.obj o4 (by
     have q1:=nb1 L.m (by simp [ML.blocks]);have q2:=nb1 L.lb (by simp [ML.blocks]);simp;exact ⟨λe=>q1 e.symm,λe=>q2 e.symm⟩)
    (conv=>whnf);refine ak.m (WW A5 (a:Int) (by omega) (by rw [Gn hu5,hth5];rfl)) (by simp [ax]) λv h6 k6 hv=>?_;obtain ⟨rfl,A6⟩:=hv;rw [Gn hu5] at A6;(conv=>whnf);refine aj.f rfl ?_;(conv=>whnf);refine ⟨2824-(a+1),by omega,?_⟩;(conv=>whnf);have hN6:({ ({ N5 with calls:=IntKind.i64.wrap (N5.calls+1) }:aS) with way:=kQ ({ N5 with calls:=IntKind.i64.wrap (N5.calls+1) }:aS).loose ({ N5 with calls:=IntKind.i64.wrap (N5.calls+1) }:aS).way (l6 (a:Int)) 8 }:aS)={ N with calls:=IntKind.i64.wrap (IntKind.i64.wrap (N.calls+1)+1),loose:=gU N.loose (a:Int) (fw (a:Int)),way:=kQ (gU N.loose (a:Int) (fw (a:Int))) N.way (l6 (a:Int)) 8 }:=by subst hN5;rfl
    have WX:fM h6 L { N with calls:=IntKind.i64.wrap (IntKind.i64.wrap (N.calls+1)+1),loose:=gU N.loose (a:Int) (fw (a:Int)),way:=kQ (gU N.loose (a:Int) (fw (a:Int))) N.way (l6 (a:Int)) 8 }:=by rw [<-hN6];exact A6
    refine ⟨(a+1,_),rfl,by rw [wrapN (x:=(a:Int)+1) (n:=a+1) (by simp) (by omega)],rfl,by simp only;omega,?_,?_,WX,?_,I5 0 _⟩
    ·exact ((k3.bX k4).trans (k5.mono (by simp [ML.blocks]))).trans (k6.mono (by simp [ML.blocks]))
    ·refine k6.obj o5 ?_;have q1:=nb1 L.m (by simp [ML.blocks]);have q2:=nb1 L.wb (by simp [ML.blocks]);simp;exact ⟨λe=>q1 e.symm,λe=>q2 e.symm⟩
    ·have:l7 h6 L N5:=Own.keep O5 k6 (λb hb=>by have:=A5.ap2 b hb;simp;exact ⟨this.1,this.2.2⟩);subst hN5;exact this
  ·have ha1:a=2824:=by
    have:¬ ((a:Int)<2824):=by simpa using hc
    omega
   subst ha1;have WY:=Gp A3.way;(conv=>whnf);refine ak.m (WZ A3 O3 I3.u (by rw [I3.len];decide) (λp hp=>?_)) (by simp [ax]) λv h4 k4 hv=>?_
   ·have h1:=wu WY hp;rw [I3.way] at h1;have h2:=I3.bG p.1 (by rw [h1];simp);refine ⟨h1,?_⟩;unfold aS.there;rw [I3.len];simp;omega
   obtain ⟨rfl,N',A4,_,u4,l4,_,r4,y4⟩:=hv;(conv=>whnf);refine ⟨k3.trans k4,rfl,N',A4,u4,by rw [l4,I3.len],λi=>?_,WO λx=>?_⟩
   rotate_left
   ·apply Classical.byContradiction;intro hx;obtain ⟨q1,q2⟩:=y4 x hx;rw [I3.way] at q2;exact q1 q2
   rw [r4,I3.read];by_cases h:i<((2824:Nat):Int)
   ·rw [if_pos h]
   ·rw [if_neg h];have h1:fw i=0:=by
     unfold fw;rw [if_neg (by omega)]
    have h2:M.there i=false:=by
     unfold aS.there;rw [hs,decide_eq_false (show ¬ (i<((2824:Nat):Int)) from h)];simp
    unfold aS.read;rw [h1,h2];rfl
theorem Gv (h:Heap):aB Tryz.prog 11 [] h (λv h'=>Keeps [] h h'/\∃ (w t bT:Nat) (V:VL) (N:aS),v=.pointer (some ⟨w,0,none⟩) /\
 h'[w]?=some (.cells ⟨[.pointer (some ⟨V.mem.m,0,none⟩),.pointer (some ⟨V.v,0,none⟩),.pointer (some ⟨t,0,none⟩)]⟩ 31 (0,0))/\h'[t]?=some (.cells ⟨[.slice (some ⟨bT,0,none⟩) 2 2]⟩ 80 (0,0))/\h'[bT]?=some (.cells ⟨fU L0⟩ 77 (0,0)) /\
 At h' V N ⟨fw,[],[],[],[]⟩/\N.read=fw/\N.gm = -1/\N.sure.length=2824/\N.loose=[]/\V.ab=none/\V.jV=none/\(∀ b∈V.blocks,h.size<=b/\b<bT/\b<t/\b<w)):=by
 refine aG aH Tryz.func11 rfl ok11 (by simp [Tryz.f11]) ?_;(conv=>whnf);refine ak.i (Xo 2824 (by decide) (by decide) h) λv h1 k1 hv=>?_;obtain ⟨ML1,rfl,A1,O1,n1⟩:=hv;have z1:=k1.size;(conv=>whnf);refine ak.m (WQ A1 O1 rfl rfl rfl rfl) (by simp [ax]) λv h2 k2 hv=>?_;obtain ⟨rfl,N,A2,hu,hs,hr,hlo⟩:=hv;have z2:=k2.size;(conv=>whnf);refine aj.f rfl ?_;(conv=>whnf);refine ak.i (Rl A2) λv h3 k3 hv=>?_;rw [if_pos hs] at hv;obtain ⟨V,rfl,Nr,hab,jG,Xx,A3⟩:=hv;have z3:=k3.size;have hr2:N.read=fw:=funext hr;rw [hr2] at A3;(conv=>whnf);refine ak.i (Xt h3) λv h4 k4 hv=>?_;obtain ⟨bT,t,rfl,Gd,ht,Xy,Xz⟩:=hv;have z4:=k4.size;(conv=>whnf);refine aO.i λw h5 e5 s5 o5 k5=>?_;have k35:Keeps [] h3 h5:=k4.trans k5;have A5:=A3.on k35;have XA:∀ b∈V.blocks,b<h3.size:=A3.blt;have XB:∀ b∈V.blocks,h.size<=b:=by
  intro b hb;have hb2:b∈[V.v,V.ob,V.sb,V.mb]\/b∈ML1.blocks:=by
   unfold VL.blocks at hb;rw [Nr,hab,jG] at hb;simp only [List.mem_cons,List.mem_append,Option.toList,List.not_mem_nil,or_false] at hb ⊢;rcases hb with h|h|h|h|h <;> simp [h]
  rcases hb2 with h|h
  ·have:=Xx b h;omega
  ·exact n1 b h
 have k05:Keeps [] h h5:=(k1.dw k2 (λb hb=>n1 b hb)).trans (k3.trans k35);(conv=>whnf);refine au.o o5 rfl ?_;(conv=>whnf);refine aj.f rfl ?_;(conv=>whnf);refine ⟨k05,w,t,bT,V,N,rfl,?_,k5.obj Xy (by simp),k5.obj Xz (by simp),A5,hr2,hu,hs,hlo,hab,jG,λb hb=>⟨XB b hb,?_⟩⟩
 ·rw [Nr];exact o5
 ·have:=XA b hb;omega
theorem NV (h:Heap):aB Tryz.prog 10 [] h (λv h'=>Keeps [] h h'/\v=.bool true):=by
 refine aG aH Tryz.func10 rfl ok10 (by simp [Tryz.f10]) ?_;(conv=>whnf);refine ak.i (Gv h) λv h1 k1 hv=>?_;obtain ⟨w,t,bT,V,N,rfl,o1,_,_,A1,hr,hu,hs,hlo,hab,jG,hV⟩:=hv;have Yl:=hV V.ob (by simp [VL.blocks]);have Ym:=hV V.sb (by simp [VL.blocks]);have Yn:=hV V.mb (by simp [VL.blocks]);have hf0:bD N.read ⟨fw,[],[],[],[]⟩ 96=96:=by rw [hr];exact Xr _ _ _ _ rfl
 (conv=>whnf);refine au.o o1 rfl ?_;(conv=>whnf);refine aj.t rfl ?_;(conv=>whnf);refine ak.m (FR A1 fs0 (sim0.fc rfl fc0) rfl [47,102] (by decide) (kind:=1) (.inl rfl)) (by simp [ax]) λv h2 k2 hv=>?_;obtain ⟨X2,A2,R2⟩:=hv;obtain ⟨rfl,a2,n2,f2,S1,I2,Z2,l2,c2⟩:=Ns (n1:=2) sim0 pl0 (by omega) (by decide) (by decide) (by decide +kernel) R2;have o2:=k2.obj o1 (by simp;omega);have Z2:l8 S1 K1 N1 B1:=Z2;(conv=>whnf);refine au.o o2 rfl ?_;(conv=>whnf);refine aj.t rfl ?_;(conv=>whnf);refine ak.m (Ci A2 I2 (Z2.fc rfl fc1) n2 [47,108] [47,102] (by decide) (by decide)) (by simp [ax]) λv h3 k3 hv=>?_;obtain ⟨X3,A3,R3⟩:=hv;have R3:lF N.read X2 S1 [47,108] 3 [47,102] v X3:=by
  rcases R3 with ⟨hpn,_⟩|⟨_,R3⟩
  ·exact absurd hpn (by decide +kernel)
  ·exact R3
 obtain ⟨rfl,a3,n3,f3,S2,I3,Z3,l3,c3⟩:=Ns (n1:=3) Z2 pl1 (by omega) (by decide +kernel) (by decide +kernel) (by decide +kernel) R3;have o3:=k3.obj o2 (by simp;omega);have Z3:l8 S2 K2 N2 B2:=Z3;(conv=>whnf);refine au.o o3 rfl ?_;(conv=>whnf);refine aj.t rfl ?_;(conv=>whnf);refine ak.m (Mf A3 I3 (Z3.fc rfl fc2) [47,108] (by decide) 0 [104,105]) (by simp [ax]) λv h4 k4 hv=>?_;obtain ⟨X4,A4,R4⟩:=hv;obtain ⟨rfl,a4,n4,S3,I4,Z4,l4,c4⟩:=XC Z3 (by omega) R4;have o4:=k4.obj o3 (by simp;omega);(conv=>whnf);refine au.o o4 rfl ?_;(conv=>whnf);refine aj.t rfl ?_;(conv=>whnf);refine ak.m (Me A4 I4 (Z4.fc rfl fc2) (Z4.ns ns2) [47,108] (by decide)) (by simp [ax]) λv h5 k5 hv=>?_;obtain ⟨X5,A5,R5⟩:=hv;obtain ⟨rfl,a5,n5,S4,I5,Z5,c5⟩:=XD Z4 (by rw [c4];exact l3) R5;have o5:=k5.obj o4 (by simp;omega);(conv=>whnf);refine aj.f rfl ?_;have hp5:cK S4 [47,102]=(2,0):=by unfold cK;rw [Z5.view];exact pa4
 have hk5:(S4.C 2).kind=1:=by rw [Z5.k];decide +kernel
 have he5:gq S4 [47,102]=0:=by
  unfold gq;rw [hp5,if_neg (by rintro ⟨_,h⟩;rw [hk5] at h;cases h)]
 have hb5:S4.aL 2=[104,105]:=by rw [Z5.b];decide +kernel
 have hr5:iZ [104,105] 0 9=([104,105],0):=by decide +kernel
 have hq5:aR (aX S4) [47,102] false=(2,0):=by rw [Z5.view];exact pb4
 have hl5:(S4.C 2).links=1:=by rw [c5,l4,c3 2 (by decide) (by decide)];exact l2
 have hs5:(S4.C 2).size=2:=by
  obtain ⟨m,F⟩:=(I5.node 2 (by decide) (by decide)).file (.inl hk5);rw [F.size,hb5];rfl
 (conv=>whnf);refine au.o o5 rfl ?_;(conv=>whnf);refine ak.m (Cm A5 I5 (Z5.fc rfl fc4) [47,102] (by decide) 0 9) (by simp [ax]) λv h6 k6 hv=>?_;obtain ⟨⟨s6,A6⟩,hv⟩:=hv;rw [he5,if_pos rfl,hp5] at hv;simp only [hb5] at hv;rw [hr5] at hv;subst hv;have o6:=k6.obj o5 (by simp;omega);(conv=>whnf);refine au.o o6 rfl ?_;(conv=>whnf);refine ak.m (Cn A6 I5 (Z5.fc rfl fc4) [47,102] (by decide)) (by simp [ax]) λv h7 k7 hv=>?_;obtain ⟨⟨s7,A7⟩,hv⟩:=hv;rw [hq5,if_pos rfl] at hv;simp only [hl5,hs5] at hv;subst hv;(conv=>whnf);refine aO.i λb8 h8 e8 s8 o8 k8=>?_;(conv=>whnf);refine aM.i λh9 s9 k9=>?_;(conv=>whnf);have z1:=k1.size;have z2:=k2.size;have z3:=k3.size;have z4:=k4.size;have z5:=k5.size;have z6:=k6.size;have z7:=k7.size;have sub:∀ {a b:Heap},Keeps [V.ob,V.sb,V.mb] a b->∀ x∈[V.ob,V.sb,V.mb],h.size<=x:=λ_ x hx=>by
  simp at hx;omega
 have k05:Keeps [] h h5:=(((k1.dw k2 (sub k2)).dw k3 (sub k3)).dw k4 (sub k4)).dw k5 (sub k5);have k07:Keeps [] h h7:=(k05.dw k6 (λx hx=>by simp at hx;omega)).dw k7 (λx hx=>by simp at hx;omega);refine ⟨k07.trans (k8.new1 k9 (by omega)),?_⟩;have hs:((ba [104,105]).toList==(ByteArray.mk #[104,105]).toList)=true:=by
  have h1:((ba [104,105]).toList==(ba [104,105]).toList)=true:=beq_self_eq_true _;exact h1
 rw [hs];rfl
instance:Rp cB where
 n:=6
 iq _ vs x:=vs=x.cells/\x.ok
 len h:=by rw [h.1];rfl
 keep _ h:=h
instance:Flat cB:=⟨λh=>h⟩
section
variable {H:Type} {enc:TypeId×Value->H} {W:World} {sp:Nat->Bool} {held:Bool}
theorem Xu:Opens enc Tryz.prog W sp held 43 cB:=by
 intro fuel cs x h hw;obtain ⟨hl,f',hp⟩:=Sv Tryz.underlying43 h hw;obtain ⟨a,b,c,d,e,f,rfl⟩:∃ a b c d e f,cs=[a,b,c,d,e,f]:=by
  match cs,hl with
  | [a,b,c,d,e,f],_=>exact ⟨a,b,c,d,e,f,rfl⟩
 obtain ⟨y0,h0,w0⟩:=hp _ (List.mem_cons_self);obtain ⟨y1,h1,w1⟩:=hp _ (List.mem_cons_of_mem _ List.mem_cons_self);obtain ⟨y2,h2,w2⟩:=hp _ (List.mem_cons_of_mem _ (List.mem_cons_of_mem _ List.mem_cons_self));obtain ⟨y3,h3,w3⟩:=hp _ (List.mem_cons_of_mem _ (List.mem_cons_of_mem _ (List.mem_cons_of_mem _ List.mem_cons_self)));obtain ⟨y4,h4,w4⟩:=hp _ (List.mem_cons_of_mem _ (List.mem_cons_of_mem _ (List.mem_cons_of_mem _ (List.mem_cons_of_mem _ List.mem_cons_self))));obtain ⟨y5,h5,w5⟩:=hp _ (List.mem_cons_of_mem _ (List.mem_cons_of_mem _ (List.mem_cons_of_mem _ (List.mem_cons_of_mem _ (List.mem_cons_of_mem _ List.mem_cons_self)))));obtain ⟨n,e0,g0⟩:=E8 (W:=W) Tryz.underlying3 f' _ _ h0 w0;obtain ⟨s,e1,g1⟩:=zw (W:=W) Tryz.underlying9 f' _ _ h1 w1;obtain ⟨t,e2,g2⟩:=zw (W:=W) Tryz.underlying9 f' _ _ h2 w2;obtain ⟨u,e3,g3⟩:=zw (W:=W) Tryz.underlying9 f' _ _ h3 w3;obtain ⟨m,e4,g4⟩:=E8 (W:=W) Tryz.underlying3 f' _ _ h4 w4;obtain ⟨k,e5,g5⟩:=E8 (W:=W) Tryz.underlying3 f' _ _ h5 w5;cases e0;cases e1;cases e2;cases e3;cases e4;cases e5;obtain ⟨l1,rfl⟩:∃ l:List UInt8,s=⟨l.toArray⟩:=⟨s.data.toList,rfl⟩;obtain ⟨l2,rfl⟩:∃ l:List UInt8,t=⟨l.toArray⟩:=⟨t.data.toList,rfl⟩;obtain ⟨l3,rfl⟩:∃ l:List UInt8,u=⟨l.toArray⟩:=⟨u.data.toList,rfl⟩;exact ⟨⟨n,l1,l2,l3,m,k⟩,rfl,g0,by have:=g1;unfold l9 at this;rwa [dN] at this,by have:=g2;unfold l9 at this;rwa [dN] at this,by have:=g3;unfold l9 at this;rwa [dN] at this,g4,g5⟩
end
theorem tn0 (i:Int)(hi:inT (aC L0) i):i=1:=by
 have h1:=hi.1;have h2:i<2:=hi.2;omega
theorem rel0:bW S0 (aC L0) [0,1]:=by
 have l1:∀ i,live (aC L0) i->i=1:=λi hi=>tn0 i hi.1;refine ⟨rfl,by decide,⟨rfl,rfl⟩,λi hi=>?_,λi j hi hj _=>by rw [l1 i hi,l1 j hj],λi hi=>?_,λi hi=>?_,λi hi _=>?_,λi hi h=>?_,λi hi h=>?_,rfl,λn n0 n24 hk=>?_,λi hi h=>absurd (l1 i hi) h,rfl,⟨λ_=>0,λi hi _ e he=>?_⟩⟩
 ·rw [l1 i hi];decide
 ·rw [l1 i hi];exact ⟨rfl,by decide,by decide⟩
 ·rw [l1 i hi];rfl
 ·rw [l1 i hi];exact ⟨rfl,λe he=>(by cases he),List.Pairwise.nil,rfl⟩
 ·rw [l1 i hi] at h;exact absurd rfl h
 ·rw [tn0 i hi];rfl
 ·refine ⟨1,⟨⟨by decide,by decide⟩,by decide⟩,?_⟩;show (1:Int)=n;have hk':(if n=1 then cu 2 1 else fZ 0).kind≠0:=hk;by_cases h1:n=1
  ·exact h1.symm
  ·rw [if_neg h1] at hk';exact absurd rfl hk'
 ·rw [l1 i hi] at he;cases he
theorem sml0:iR (aC L0) 0:=⟨by decide,λx hx=>by
 have:x=⟨0,0,0,[],[]⟩\/x=⟨1,2,1,[],[]⟩:=by simpa [aC,L0] using hx
 rcases this with rfl|rfl
 ·exact ⟨Nat.zero_le _,λh=>by cases h⟩
 ·exact ⟨Nat.zero_le _,λh=>by cases h⟩⟩
theorem NY {h:Heap}{a:Option Addr}{n c:Nat}{xs:List cB}(S:Sl h a n c xs):aB Tryz.prog 13 [.slice a n c] h (λv h'=>Keeps [] h h'/\∃ c',v=.slice a (min n 60) c'/\Sl h' a (min n 60) c' (xs.take 60)):=by
 have hl:=S.hlen;have hc:=S.hcap;refine aG aH Tryz.func13 rfl ok13 (by simp [Tryz.f13]) ?_;(conv=>whnf);refine di.i 0 (min n 60) rfl (by split <;> omega) (Nat.zero_le _) (by omega) ?_;(conv=>whnf);have P:=S.part (l:=0) (r:=min n 60) (Nat.zero_le _) (by omega);rw [List.drop_zero] at P;have e:xs.take (min n 60)=xs.take 60:=by
  rw [hl,<-List.take_take];exact List.take_of_length_le (by rw [List.length_take];omega)
 rw [e,kY] at P;refine ⟨Keeps.refl _ _,_,?_,P⟩;rw [kY];rfl
theorem NW {h0 h:Heap}(hb:h0.size<=h.size){w t bT:Nat}{V:VL}{N:aS}
 (hw:h[w]?=some (.cells ⟨[.pointer (some ⟨V.mem.m,0,none⟩),.pointer (some ⟨V.v,0,none⟩),.pointer (some ⟨t,0,none⟩)]⟩ 31 (0,0))) (ht:h[t]?=some (.cells ⟨[.slice (some ⟨bT,0,none⟩) 2 2]⟩ 80 (0,0))) (hT:h[bT]?=some (.cells ⟨fU L0⟩ 77 (0,0)))
 (A:At h V N ⟨fw,[],[],[],[]⟩) (hu:N.gm = -1) (hs:N.sure.length=2824) (hab:V.ab=none) (jG:V.jV=none) (hV:∀ b∈V.blocks,h0.size<=b/\b<bT/\b<t/\b<w) (hw0:h0.size<=w) :
 kr h h0.size w V N ⟨fw,[],[],[],[]⟩ S0 (min bT t) t (some ⟨bT,0,none⟩) 2 L0 [0,1] 0:=by
 refine ⟨hw,A,fs0,rel0,sml0,⟨ht,.inr ⟨bT,_,rfl,hT,rfl,rfl,rfl,Nat.le_refl _⟩,λx hx=>?_,by omega,λb hb=>?_⟩,⟨hab,jG⟩,⟨hu,hs⟩,⟨hw0,λb hb=>(hV b hb).1⟩,λhx=>by have:=(hV w hx).2.2.2;omega⟩
 ·have:x=⟨⟨0,0,0,[],[]⟩,none,0,0⟩\/x=⟨⟨1,2,1,[],[]⟩,none,0,0⟩:=by simpa [L0] using hx
  rcases this with rfl|rfl
  ·exact ⟨rfl,.inl ⟨rfl,rfl,rfl,rfl⟩,λb hb=>(by cases hb),λe he=>(by cases he),Nat.zero_le _⟩
  ·exact ⟨rfl,.inl ⟨rfl,rfl,rfl,rfl⟩,λb hb=>(by cases hb),λe he=>(by cases he),Nat.zero_le _⟩
 ·have:b=bT:=by simpa [ay] using hb
  omega
theorem _root_.Go.aK.Sl.NZ {h:Heap}{a:Option Addr}{n c:Nat}{xs:List cB}(S:Sl h a n c xs)(hn:0<n):∀ b∈ay a,b<h.size:=by
 have hl:=S.hlen;obtain ⟨b,o,hb,cs,⟨rfl,_⟩,hc⟩:=S.at_ 0 (by omega);intro x hx;rw [hb] at hx;simp [ay] at hx;subst hx;exact xQ (hc 0 (by simp [cB.cells]))
theorem kr.on {h h':Heap}{b0 w:Nat}{V:VL}{M:aS}{X:VS}{S:FS}{z t:Nat}{aT:Option Addr}{cT:Nat}{L:List bS}{num:List Int}{N:Nat}(P:kr h b0 w V M X S z t aT cT L num N)(k:Keeps [] h h'):kr h' b0 w V M X S z t aT cT L num N:=
 ⟨k.obj P.obj (by simp),P.at_.on k,P.fs,P.rel,P.ku,P.tree.keep k (by simp),P.ab,P.calm,P.new,P.apart⟩
theorem Cf {H:Type}:∀ {l:List (DataW H)} {d:DataW H},d∈l->Rows.uptoBulk d<=Rows.uptoBulkAll l
 | x::r,d,h=>by
  simp only [Rows.uptoBulkAll];rcases List.mem_cons.1 h with rfl|h
  ·omega
  ·have:=Cf h;omega
section
variable {H:Type} {enc:TypeId×Value->H} {W:World} {sp:Nat->Bool} {held:Bool}
theorem Nu:Opens enc Tryz.prog W sp held 22 (List cB):=Sr Tryz.underlying22 (by kernel_rfl) (by decide) (of_decide_eq_true (by kernel_rfl)) Xu
theorem Nq {fuel:Nat}{s:ByteArray}{x:DataW H×List MemPlace}(h:DataW.trod enc Tryz.prog W 0 sp held fuel 9 [.string s]=some x):s.data.toList.length<=Rows.uptoBulk x.1:=by
 obtain ⟨s',h1,h2,_⟩:=DataW.trod_string Tryz.underlying9 h;have:s=s':=by simpa using h1
 subst this;rw [h2];simp only [Rows.uptoBulk];omega
theorem Xv {fuel:Nat}{c:cB}{x:DataW H×List MemPlace}(h:DataW.trod enc Tryz.prog W 0 sp held fuel 43 c.cells=some x):c.path.length<=Rows.uptoBulk x.1/\c.path2.length<=Rows.uptoBulk x.1:=by
 obtain ⟨xs,n,rfl,rfl,_,hl,hf⟩:=DataW.trod_struct Tryz.underlying43 h;have hl:xs.length=6:=hl;have h1:=hf 1 _ rfl;have h2:=hf 2 _ rfl;have g1:xs[1]?=some (xs[1]'(by omega)):=List.getElem?_eq_getElem _;have g2:xs[2]?=some (xs[2]'(by omega)):=List.getElem?_eq_getElem _;rw [g1] at h1;rw [g2] at h2;have b1:=Nq (s:=ba c.path) h1;have b2:=Nq (s:=ba c.path2) h2;have m1:=Cf (List.mem_map_of_mem (f:=(·.1)) (List.getElem_mem (show 1<xs.length by omega)));have m2:=Cf (List.mem_map_of_mem (f:=(·.1)) (List.getElem_mem (show 2<xs.length by omega)));have e1:(ba c.path).data.toList.length=c.path.length:=by unfold ba;simp
 have e2:(ba c.path2).data.toList.length=c.path2.length:=by unfold ba;simp
 simp only [Rows.uptoBulk];omega
theorem NA {a:Option Addr}{n c:Nat}{d:DataW H}{p:List MemPlace}(h:DataW.Trod enc Tryz.prog W 0 sp held 22 (.slice a n c) d p){L:List cB}(S:Sl W.heap a n c L)(hb:Rows.uptoBulk d<=1048576):∀ x∈L,x.path.length<=1048576/\x.path2.length<=1048576:=by
 obtain ⟨fuel,hf⟩:=h;have hcs:(Value.slice a n c).cells.toList=[.slice a n c]:=by simp [Value.cells]
 rw [hcs] at hf;have hl:=S.hlen;rcases DataW.trod_slice Tryz.underlying22 hf with ⟨h1,_⟩|⟨ad,len,cap,elems,rest,m,_,h1,h2,_,_,_,he,hel,_⟩
 ·have:n=0:=by simp at h1;exact h1.2.1
  intro x hx;have:L=[]:=List.eq_nil_of_length_eq_zero (by omega);subst this;cases hx
 ·have e1:a=some ad/\n=len/\c=cap:=by simpa using h1
  obtain ⟨rfl,rfl,rfl⟩:=e1;have hd:d=.slice (elems.map (·.1)) (rest.map (·.1)):=congrArg Prod.fst h2;rw [hd] at hb;simp only [Rows.uptoBulk] at hb;intro x hx;obtain ⟨i,hi,rfl⟩:=List.getElem_of_mem hx;have hi1:i<elems.length:=by omega
  have g:=hel i (by omega);rw [List.getElem?_eq_getElem hi1] at g;have hn6:Tryz.prog.cellsOf 43=6:=by kernel_rfl
  rw [hn6] at g;cases hcell:W.cells? 0 (ad.add (i*6)) 6 with
  | none=>rw [hcell] at g;cases g
  | some cs=>
   rw [hcell] at g;have g:DataW.trod enc Tryz.prog W 0 sp held m 43 cs=some (elems[i]'hi1):=g;obtain ⟨b,off,q1,q2,q3⟩:=E5 hcell (by decide);obtain ⟨b',off',hb',cs',⟨rfl,_⟩,hc'⟩:=S.at_ i hi;have hadd:ad=⟨b',off',none⟩:=Option.some.inj hb';rw [hadd,addr_add] at q1;have eb:b'=b/\off'+i*6=off:=by
    have:=q1;simp only [Addr.mk.injEq,and_true] at this;exact this
   obtain ⟨rfl,rfl⟩:=eb;have Xw:cs=(L[i]'hi).cells:=by
    apply List.ext_getElem?;intro j;by_cases hj:j<6
    ·have a1:=q3 j (by omega);have a2:=hc' j (by simpa [cB.cells] using hj);rw [<-a1];exact a2
    ·rw [List.getElem?_eq_none (by omega),List.getElem?_eq_none (by simp [cB.cells];omega)]
   rw [Xw] at g;have hcl:=Xv g;have hm:=Cf (List.mem_map_of_mem (f:=(·.1)) (List.getElem_mem hi1));omega
end
set_option maxHeartbeats 8000000
def Nk (f:jh):List UInt8:=if kindOf f=2 then [] else f.data.take 130
def Ce (T:List aJ)(num:List Int)(f:jh)(T':List aJ)(num':List Int):Prop:=
 (T'=T/\num'=num) \/
 ∃ n,2<=n/\n<24/\(∀ i,inT T i->nu num i≠n)/\(∀ k,2<=k->k<n->∃ i,inT T i/\nu num i=k) /\
  T'=mq T (uU f T.length) (bC (tn T (uU f T.length)).names ⟨f.name,(T.length:Int)⟩)++[⟨n,kindOf f,1,Nk f,[]⟩]/\num'=num++[n]
def Nj (T:List aJ)(f:jh):Prop:=(tn T (uU f T.length)).kind=2/\dH f.name=true/\dx (tn T (uU f T.length)).names f.name=false/\(tn T (uU f T.length)).names.length<10
def T0:List aJ:=[⟨0,0,0,[],[]⟩,⟨1,2,1,[],[]⟩]
inductive RunT:List jh->List aJ->List Int->Prop
 | nil:RunT [] T0 [0,1]
 | put {fs:List jh} {T:List aJ} {num:List Int} {f:jh} {T':List aJ} {num':List Int}:RunT fs T num->Ce T num f T' num'->(Nj T f->T'.length=T.length+1)->RunT (fs++[f]) T' num'
theorem Ce.len {T:List aJ}{num:List Int}{f:jh}{T':List aJ}{num':List Int}(P:Ce T num f T' num'):T'.length<=T.length+1:=by
 rcases P with ⟨rfl,rfl⟩|⟨n,_,_,_,_,rfl,rfl⟩
 ·omega
 ·unfold mq;simp
theorem RunT.len {fs:List jh}{T:List aJ}{num:List Int}(R:RunT fs T num):T.length<=2+fs.length:=by
 induction R with
 | nil=>decide
 | put _ P _ ih=>have:=P.len;rw [List.length_append];show _<=2+(_+1);omega
instance:Rp jh where
 n:=4
 iq _ vs x:=vs=x.cells/\x.ok
 len h:=by rw [h.1];rfl
 keep _ h:=h
instance:Flat jh:=⟨λh=>h⟩
section
variable {H:Type} {enc:TypeId×Value->H} {W:World} {sp:Nat->Bool} {held:Bool}
end
theorem RunT.inv {fs:List jh}{f:jh}{T':List aJ}{num':List Int}(R:RunT (fs++[f]) T' num'):∃ T num,RunT fs T num/\Ce T num f T' num'/\(Nj T f->T'.length=T.length+1):=by
 generalize he:fs++[f]=gs at R;cases R with
 | nil=>simp at he
 | put R P G=>
  obtain ⟨rfl,e2⟩:=List.append_inj' he rfl;cases e2;exact ⟨_,_,R,P,G⟩
def Gm (T:List aJ)(f:jh):List aJ:=mq T (uU f T.length) (bC (tn T (uU f T.length)).names ⟨f.name,(T.length:Int)⟩)++[⟨T.length,kindOf f,1,Nk f,[]⟩]
def f1:jh:=⟨0,1,[98],[]⟩
def f2:jh:=⟨0,2,[97],[47,98]⟩
def f3:jh:=⟨1,0,[99],[]⟩
def T3:List aJ:=Gm (Gm (Gm T0 f1) f2) f3
theorem WI.path {B:Int->UInt64}{X:VS}{S:FS}{T:List aJ}{num:List Int}(W:WI B X S T num)(path:List UInt8)(follow:Bool) :
 (aR (aX S) path follow).2=(aR (aW T) path follow).2/\((aR (aW T) path follow).2=0->(aR (aX S) path follow).1=nu num (aR (aW T) path follow).1/\inT T (aR (aW T) path follow).1):=by
 unfold aR;cases bA path with
 | none=>exact ⟨rfl,λh=>by cases h⟩
 | some l=>
  have h1:inT T 1:=by have:=W.w.two;exact ⟨by omega,by omega⟩
  have:=qo W.w.alike (root:=1) (follow:=follow) h1 600 1 0 l h1;rw [W.w.root.1] at this;exact this
theorem Gl {F:Fs}{root:Int}{follow:Bool}:∀ (f:Nat) (at_:Int) (links:Nat) (l:List (List UInt8)),(dn F root follow f at_ links l).2 ≠ -1->dn F root follow (f+1) at_ links l=dn F root follow f at_ links l
 | 0,_,_,_,h=>absurd rfl h
 | f+1,at_,links,[],_=>rfl
 | f+1,at_,links,name::rest,h=>by
  have e1:∀ fu,dn F root follow (fu+1) at_ links (name::rest)=(if F.kind at_≠2 then (0,6)
   else (match F.find at_ name with
    | none=>(0,4)
    | some next=>
     if F.kind next≠3\/(rest=[]/\follow=false) then dn F root follow fu next links rest
     else if 8<links+1 then (0,11)
     else (match bA (F.data next) with
      | none=>(0,15)
      | some head=>dn F root follow fu root (links+1) (head++rest)))):=λfu=>rfl
  rw [e1] at h;rw [e1,e1];split
  ·rfl
  ·rename_i hk;rw [if_neg hk] at h;split
   ·rfl
   ·rename_i next hf;rw [hf] at h;simp only at h;split
    ·rename_i hc;rw [if_pos hc] at h;exact Gl f _ _ _ h
    ·rename_i hc;rw [if_neg hc] at h;split
     ·rfl
     ·rename_i hl;rw [if_neg hl] at h;split
      ·rfl
      ·rename_i head hp;rw [hp] at h;exact Gl f _ _ _ h
theorem Gj {F:Fs}{r:Int}{fl:Bool}:∀ (f:Nat) (at_:Int) (k:Nat) (l:List (List UInt8)),(dn F r fl f at_ (k+1) l).2=11\/dn F r fl f at_ (k+1) l=dn F r fl f at_ k l
 | 0,_,_,_=>.inr rfl
 | f+1,_,_,[]=>.inr rfl
 | f+1,at_,k,name::rest=>by
  rw [sK,sK];split
  ·exact .inr rfl
  ·cases F.find at_ name with
   | none=>exact .inr rfl
   | some next=>
    simp only;split
    ·exact Gj f next k rest
    ·by_cases h8:8<k+1+1
     ·rw [if_pos h8];exact .inl rfl
     ·rw [if_neg h8,if_neg (show ¬ 8<k+1 by omega)];cases bA (F.data next) with
      | none=>exact .inr rfl
      | some head=>exact Gj f r (k+1) (head++rest)
theorem NU {F:Fs}{p t nm:List UInt8}{n:Int}{head:List (List UInt8)}(hp:bA p=some [nm])(ht:bA t=some head)(h1:F.kind 1=2)(hf:F.find 1 nm=some n)(hk:F.kind n=3)(hd:F.data n=t) :
 (aR F p true).2=11\/aR F p true=aR F t true:=by
 unfold aR;rw [hp,ht];simp only;rw [show (600:Nat)=599+1 from rfl,sK (rest:=[]),if_neg (by rw [h1];decide),hf];simp only;rw [if_neg (by rw [hk];simp),if_neg (by decide),hd,ht];simp only [List.append_nil];have hl:=(mr ht).1;have e:=Gl (F:=F) (root:=1) (follow:=true) 599 1 0 head (wT 599 1 0 head (by decide) (by omega));rw [e];exact Gj 599 1 0 head
theorem NT {F:Fs}{p nm:List UInt8}{n:Int}(hp:bA p=some [nm])(h1:F.kind 1=2)(hf:F.find 1 nm=some n):aR F p false=(n,0):=by
 unfold aR;rw [hp];simp only;rw [show (600:Nat)=599+1 from rfl,sK (rest:=[]),if_neg (by rw [h1];decide),hf];show (if F.kind n≠3\/(([]:List (List UInt8))=[]/\false=false) then dn F 1 false 599 n 0 [] else _)=_;rw [if_pos (.inr ⟨rfl,rfl⟩)];rfl
def lG:List UInt8:=[47,116,104,101,45,108,105,110,107]
def sW:List UInt8:=[116,104,101,45,108,105,110,107]
theorem Ch:bA lG=some [sW]:=by decide +kernel
theorem NN (T:List aJ)(x:aJ):tn (T++[x]) (T.length:Int)=x:=by
 unfold tn;simp
structure pJ (T:List aJ)(n:Int)(target:List UInt8):Prop where
 root:(aW T).kind 1=2
 find:(aW T).find 1 sW=some n
 node:(tn T n).kind=3/\(tn T n).links=1/\(tn T n).data=target/\(tn T n).names=[]
theorem NP {T T':List aJ}(W:jF T){target:List UInt8}(D:mg T lG 3 target 0 T'):pJ T' (T.length:Int) target:=by
 rcases D with ⟨h0,he⟩|⟨d,nm,nd,Q,⟨_,he⟩|⟨h0,_,hT⟩⟩
 ·exact absurd he.symm h0
 ·cases he
 ·subst h0;obtain ⟨l,hp,hl,hw,hk,hn,_⟩:=NQ Q.is;rw [Ch] at hp;cases hp;have hd:(1:Int)=d:=congrArg Prod.fst hw;have hnm:nm=sW:=hn;subst hd hnm;rw [hT];refine ⟨?_,NR.2 ⟨⟨sW,(T.length:Int)⟩,?_,rfl⟩,?_⟩
  ·show (tn _ 1).kind=2;rw [Gu ((uV _).2 Q.inn),mh Q.inn _ (by decide),if_pos rfl];exact Q.kind
  ·rw [Gu ((uV _).2 Q.inn),mh Q.inn _ (by decide),if_pos rfl];show bV (bC (tn T 1).names ⟨sW,(T.length:Int)⟩) sW=_;rw [NS (W.dir 1 Q.inn Q.kind).2.2 (Q.new W),if_pos rfl]
  ·have:=NN (bL T 1 { tn T 1 with names:=bC (tn T 1).names ⟨sW,(T.length:Int)⟩ }) ⟨T.length,3,1,target,[]⟩;rw [nW] at this;rw [this];exact ⟨rfl,rfl,rfl,rfl⟩
section
variable {T:List aJ} {n:Int} {target:List UInt8}
theorem pJ.path (Y:pJ T n target):aR (aW T) lG false=(n,0):=NT Ch Y.root Y.find
theorem pJ.follow (Y:pJ T n target):lH T ⟨16,lG,[],[],0,0⟩=⟨0,target,0,0,0,[]⟩:=by
 unfold lH;simp only;rw [Y.path,if_pos rfl,if_pos Y.node.1,Y.node.2.2.1]
theorem pJ.stat (Y:pJ T n target):ji T ⟨14,lG,[],[],0,0⟩=⟨0,[],3,1,(target.length:Int),[]⟩:=by
 unfold ji;simp only;rw [Y.path,if_pos rfl,Y.node.1,Y.node.2.1,Y.node.2.2.1,Y.node.2.2.2];rfl
theorem pJ.same (Y:pJ T n target)(hp:bA target≠none)(at_ k:Int):(jU T ⟨12,lG,[],[],at_,k⟩).err=11\/(jU T ⟨12,lG,[],[],at_,k⟩=jU T ⟨12,target,[],[],at_,k⟩/\pK T ⟨15,lG,[],[],0,0⟩=pK T ⟨15,target,[],[],0,0⟩):=by
 cases ht:bA target with
 | none=>exact absurd ht hp
 | some hd=>
  rcases NU Ch ht Y.root Y.find Y.node.1 Y.node.2.2.1 with h|h
  ·left
   unfold jU tE;simp only;rw [h];rfl
  ·right
   unfold jU pK tE lE tX;simp only;rw [h];exact ⟨rfl,rfl⟩
end
theorem fP.sym {h:Heap}{V:VL}{M:aS}{X:VS}{S:FS}{T:List aJ}{num:List Int}{N:Nat}(P:fP h V M X S T num N)(target:List UInt8)(ht:target.length<=140737488351232) :
 aB Tryz.prog 22 [.pointer (some ⟨V.v,0,none⟩),.string (ba lG),.string (ba target)] h (λv h'=>Keeps [V.ob,V.sb,V.mb] h h' /\
  ((∃ e,v=.int .i64 e/\e≠0)\/(v=.int .i64 0/\bA target≠none/\∃ X' S' T' num' n,fP h' V M X' S' T' num' (N+1)/\pJ T' n target))):=by
 refine (Ci P.at_ P.fs P.rel.fc (P.at_.aw0 P.ab.2) lG target (by decide) ht).mono λv h' ⟨k,X',A',hR⟩=>⟨k,?_⟩;rcases hR with ⟨_,rfl,_⟩|⟨p1,R⟩
 ·exact .inl ⟨_,rfl,by decide⟩
 ·obtain ⟨e,rfl⟩:=R.int;have R7:fI M.read X S ⟨7,lG,target,[],0,0⟩ (bK e) X':=(vc7 rfl).2 ⟨e,rfl,.inr ⟨p1,R⟩⟩;obtain ⟨r',T',D,h|⟨_,h,_⟩|⟨h1,h2,S',num',VI⟩⟩:=P.call A' R7
  ·have:e=9:=congrArg dD.err h.1;exact .inl ⟨e,rfl,by omega⟩
  ·exact .inl ⟨e,rfl,h⟩
  ·have he:e=0:=h2;subst he;obtain ⟨e',hr,hD⟩:=(rc7 rfl).1 D;rw [<-h1] at hr;have he:0=e':=congrArg dD.err hr;subst he;rcases hD with ⟨h,_⟩|⟨_,hD⟩
   ·exact absurd h p1
   ·exact .inr ⟨rfl,p1,X',S',T',num',_,VI,NP P.rel.tree hD⟩
theorem Nz {h:Heap}{a:Option Addr}{n c:Nat}{W:List cB}(SW:Sl h a n c W)(hp:∀ x∈W,x.path.length<=1048576/\x.path2.length<=1048576)(target:List UInt8)(Cj:target.length<=140737488351232):aB Tryz.prog 6 [.slice a n c,.string (ba target)] h (λv h'=>Keeps [] h h'/\v=.bool true):=by
 refine aG aH Tryz.func6 rfl ok6 (by simp [Tryz.f6]) ?_;(conv=>whnf);refine ak.i (NV h) λv h1 k1 hv=>?_;subst hv;(conv=>whnf);refine aj.f rfl ?_;(conv=>whnf);refine ak.i (Gv h1) λv h2 k2 hv=>?_;obtain ⟨w,t,bT,V,N,rfl,hw,ht,hT,A,hr,hu,hs,hlo,hab,jG,hV⟩:=hv;have k02:=k1.trans k2;have z1:=k1.size;have z2:=k2.size;have hw1:h.size<=w:=by have:=hV V.v (by simp [VL.blocks]);omega
 have P0:=NW (h0:=h) (by omega) hw ht hT A hu hs hab jG (λb hb=>by have:=hV b hb;omega) hw1;(conv=>whnf);refine aj.f rfl ?_;(conv=>whnf);refine ak.i (NY ((SW).keep k02)) λv h3 k3 hv=>?_;obtain ⟨c3,rfl,S3⟩:=hv;have kh3:=k02.trans k3;have hm3:min n 60<=60:=Nat.min_le_right _ _;have hb3:0<min n 60->∀ b∈ay a,b<h.size:=λhp=>(SW).NZ (by omega);have hp3:∀ x∈W.take 60,x.path.length<=1048576/\x.path2.length<=1048576:=λx hx=>hp x (List.mem_of_mem_take hx);generalize min n 60=n3 at *;generalize W.take 60=W at *;have hl3:=S3.hlen;(conv=>whnf);refine bO.on [0,1,5,6] [] (λi:Nat=>[(0,.v (.slice a n3 c3)),(1,.v (.string (ba target))),(5,.v (.pointer (some ⟨w,0,none⟩))),(6,.v (.int .i64 (i:Int)))]) (λ_=>[])
  (λi h'=>i<=n3/\Keeps [] h h'/\Sl h' a n3 c3 W/\∃ V M X S z t aT cT L num,kr h' h.size w V M X S z t aT cT L num i/\X.now=M.read) (λi=>n3-i) 0 ?_ ?_
 ·(conv=>whnf);exact ⟨0,rfl,rfl,rfl,Nat.zero_le _,kh3,S3,V,N,⟨fw,[],[],[],[]⟩,S0,min bT t,t,some ⟨bT,0,none⟩,2,L0,[0,1],P0.on k3,hr.symm⟩
 ·rintro i h4 ⟨hi,k4,S4,V4,M4,X4,FS4,z4,t4,aT4,cT4,L4,num4,P4,hn4⟩;have hz4:=k4.size;(conv=>whnf);refine aj.i (λhd=>?_) (λhd=>?_)
  ·have hi1:i<W.length:=by simp at hd;omega
   obtain ⟨b5,o5,hb5,_,⟨rfl,hok⟩,hc5⟩:=S4.at_ i hi1;have hem:=List.getElem_mem hi1;have hps:=hp3 _ hem;have hnew:∀ x∈[w,V4.ob,V4.sb,V4.mb,V4.v,V4.mem.m,V4.mem.lb],h.size<=x:=λx hx=>by
    rcases List.mem_cons.1 hx with rfl|hx
    ·exact P4.new.1
    ·refine P4.new.2 x ?_;simp only [List.mem_cons,List.not_mem_nil,or_false] at hx;rcases hx with rfl|rfl|rfl|rfl|rfl|rfl <;> simp [VL.blocks,ML.blocks]
   (conv=>whnf);refine aV.i i rfl (by omega) hb5 ?_;(conv=>whnf);refine eY.i (vs:=(W[i]'hi1).cells) rfl (λj hj=>hc5 j hj) ?_;(conv=>whnf);refine ak.m (Oa P4 hz4 hn4 (by omega) (W[i]'hi1) hok hps.1 hps.2) (by simp [ax]) λv h6 k6 hv=>?_;obtain ⟨rfl,V6,M6,X6,FS6,z6,t6,aT6,cT6,L6,num6,P6,hn6⟩:=hv;have k06:Keeps [] h h6:=k4.dw k6 hnew;(conv=>whnf);refine aj.f rfl ?_;(conv=>whnf);refine ⟨n3-(i+1),by omega,?_⟩;(conv=>whnf);refine ⟨i+1,rfl,by rw [wrapN (n:=i+1) (by simp) (by omega)],rfl,by omega,k06,S4.jH k6 (λb hb hx=>by have:=hb3 (by omega) b hb;have:=hnew b hx;omega),V6,M6,X6,FS6,z6,t6,aT6,cT6,L6,num6,P6,hn6⟩
  ·have VI:=P4.view;have hap:=P4.apart;have o4:=P4.obj;have hw3:w∉[V4.ob,V4.sb,V4.mb]:=λhx=>hap (by
    simp only [List.mem_cons,List.not_mem_nil,or_false] at hx;rcases hx with rfl|rfl|rfl <;> simp [VL.blocks])
   have hw1:w∉[V4.sb]:=λhx=>hw3 (by simp at hx ⊢;exact .inr (.inl hx));have new3:∀ x∈[V4.ob,V4.sb,V4.mb],h.size<=x:=λx hx=>P4.new.2 x (by
    simp only [List.mem_cons,List.not_mem_nil,or_false] at hx;rcases hx with rfl|rfl|rfl <;> simp [VL.blocks])
   have new1:∀ x∈[V4.sb],h.size<=x:=λx hx=>new3 x (by simp at hx ⊢;exact .inr (.inl hx));clear P4;(conv=>whnf);refine au.o o4 rfl ?_;(conv=>whnf);refine ak.m (VI.sym target Cj) (by simp [ax]) λv h5 k5 hv=>?_;have k05:=k4.dw k5 new3;have o5:=k5.obj o4 hw3;rcases hv with ⟨e,rfl,he⟩|⟨rfl,hpt,X5,S5,T5,num5,nn,VI,Y⟩
   ·(conv=>whnf);refine aj.t (by simp [he]) ?_;(conv=>whnf);exact ⟨k05,rfl⟩
   ·(conv=>whnf);refine aj.f rfl ?_;(conv=>whnf);refine au.o o5 rfl ?_;(conv=>whnf);refine ak.m (VI.follow lG (by decide)) (by simp [ax]) λv h6 k6 hv=>?_;obtain ⟨⟨s6,VI⟩,rfl⟩:=hv;rw [Y.follow];have k06:=k05.dw k6 new1;have o6:=k6.obj o5 hw1;(conv=>whnf);refine au.o o6 rfl ?_;(conv=>whnf);refine ak.m (VI.stat lG (by decide)) (by simp [ax]) λv h7 k7 hv=>?_;obtain ⟨⟨s7,VI⟩,rfl⟩:=hv;rw [Y.stat];have k07:=k06.dw k7 new1;have o7:=k7.obj o6 hw1;have z7:=k7.size;have hsb:=VI.at_.blt V4.sb (by simp [VL.blocks]);(conv=>whnf);refine aO.i λb8 h8 e8 s8 o8 k8=>?_;(conv=>whnf);refine aM.i λh9 s9 k9=>?_;have k79:Keeps [] h7 h9:=k8.new1 k9 (by omega);have VI:=VI.on k79;have k09:=k07.trans k79;have o9:=k79.obj o7 (by simp);(conv=>whnf);refine aj.f (by simp [sZ,tq]) ?_;(conv=>whnf);refine au.o o9 rfl ?_;(conv=>whnf);refine ak.m (VI.read lG (by decide) 0 4096) (λy hy hx=>by
     simp [ax,aZ] at hy hx;omega) λv h10 k10 hv=>?_
    obtain ⟨⟨s10,VI⟩,rfl⟩:=hv;have k010:=k09.dw k10 new1;have o10:=k10.obj o9 hw1;(conv=>whnf);refine au.o o10 rfl ?_;(conv=>whnf);refine ak.m (VI.read target Cj 0 4096) (λy hy hx=>by
     simp [ax,aZ] at hy hx;omega) λv h11 k11 hv=>?_
    obtain ⟨⟨s11,VI⟩,rfl⟩:=hv;have k011:=k010.dw k11 new1;have o11:=k11.obj o10 hw1;(conv=>whnf);refine au.o o11 rfl ?_;(conv=>whnf);refine ak.m (VI.list lG (by decide)) (λy hy hx=>by
     simp [ax,aZ] at hy hx;omega) λv h12 k12 hv=>?_
    obtain ⟨⟨s12,VI⟩,a12,c12,rfl⟩:=hv;have k012:=k011.dw k12 new1;have o12:=k12.obj o11 hw1;(conv=>whnf);refine au.o o12 rfl ?_;(conv=>whnf);refine ak.m (VI.list target Cj) (λy hy hx=>by
     simp [ax,aZ] at hy hx;omega) λv h13 k13 hv=>?_
    obtain ⟨⟨s13,VI⟩,a13,c13,rfl⟩:=hv;have k013:=k012.dw k13 new1;have hsm:=Y.same hpt 0 4096;(conv=>whnf);refine ⟨k013,?_⟩;rcases hsm with h|⟨h1,h2⟩
    ·simp [h]
    ·rw [h1,h2];simp [sZ]
end Go.Proofs.YtoociceebodfeaaGreatDoor
